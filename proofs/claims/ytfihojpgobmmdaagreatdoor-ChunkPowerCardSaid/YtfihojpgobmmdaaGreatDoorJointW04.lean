/- Lemmas of the engine. No conditions. -/
import Derived.Test.YtfihojpgobmmdaaGreatDoorJointW03
set_option linter.unusedVariables false
set_option linter.unusedSimpArgs false
set_option linter.unusedSectionVars false
namespace Go.Eng
open Go Go.RowKit
mutual
def V.deep:V->Bool
 | .ptr (some _)=>false
 | .dx (some _) _ _ _=>false
 | .map (some _)=>false
 | .fn f a c=>wA f&&(V.rC a&&V.rC c)
 | .iface _ x=>V.deep x
 | .agg Q=>V.rC Q
 | .ew Q=>V.rC Q
 |_=>true
def V.rC:ag->Bool
 | []=>true
 |x::xs=>V.deep x&&V.rC xs
end
mutual
theorem Dv{E E':Env}(lJ:∀b c,E.φ b=some c->E'.φ b=some c):∀(v:V) (v':Value),v.deep=true->dJ E v v'->dJ E' v v'
 | .bool _,_,_,r=>r
 | .int _ _,_,_,r=>r
 | .str _,_,_,r=>r
 | .ptr none,_,_,r=>r
 | .ptr (some _),_,h,_=>by simp[V.deep]at h
 | .dx none _ _ _,_,_,r=>r
 | .dx (some _) _ _ _,_,h,_=>by simp[V.deep]at h
 | .map none,_,_,r=>r
 | .map (some _),_,h,_=>by simp[V.deep]at h
 | .fn f a c,_,h,⟨f',a',c',rf,ra,rc,q⟩=>by
   simp only[V.deep,aE]at h;refine⟨f',a',c',?_,oM lJ a a' h.2.1 ra,oM lJ c c' h.2.2 rc,q⟩;cases f<;>first|exact rf|(simp[wA]at h;done)
 | .kT,_,_,r=>r
 | .iface _ x,_,h,⟨x',r,q⟩=>⟨x',Dv lJ x x' (by simpa only[V.deep]using h) r,q⟩
 | .nilIface,_,_,r=>r
 | .agg Q,_,h,⟨cs',r,q⟩=>⟨cs',oM lJ Q cs' (by simpa only[V.deep]using h) r,q⟩
 | .ew Q,_,h,⟨cs',r,q⟩=>⟨cs',oM lJ Q cs' (by simpa only[V.deep]using h) r,q⟩
 | .dV _ _ _,_,_,r=>⟨ld lJ _ _ r.1,r.2⟩
 | .eK Q,_,_,⟨b,o,c,vs,e,e1,r,q⟩=>⟨b,o,c,vs,e,lJ _ _ e1,jf lJ Q vs r,q⟩
theorem oM{E E':Env}(lJ:∀b c,E.φ b=some c->E'.φ b=some c):∀(v:ag) (v':List Value),V.rC v=true->dK E v v'->dK E' v v'
 | [],_,_,r=>r
 |x::xs,_,h,⟨y,ys,r,O,q⟩=>by
  simp only[V.rC,aE]at h;exact⟨y,ys,Dv lJ x y h.1 r,oM lJ xs ys h.2 O,q⟩
end
section
variable(fl:Nat->Option (ai))
mutual
def BC:V->Option (ah×V)
 | .dx (some (m,o)) T A jJ=>match fl m with
   |some Q=>match o with
    |0=>some ([Q.length=T*jJ],.dV false T Q)
    |o+1=>some ([],.dV false T ((Q.drop (o+1)).take (T*jJ)))
   |none=>some ([],.dx (some (m,o)) T A jJ)
 | .ptr (some (m,o))=>match fl m with
   |some _=>none
   |none=>some ([],.ptr (some (m,o)))
 | .map (some m)=>match fl m with
   |some _=>none
   |none=>some ([],.map (some m))
 | .fn f a c=>match f with
   | .yield m=>match fl m with
     |some _=>none
     |none=>match zH a with
      |some (cU,a)=>match zH c with
       |some (aa,c)=>some (cU++aa,.fn (.yield m) a c)
       |none=>none
      |none=>none
   |f=>match zH a with
    |some (cU,a)=>match zH c with
     |some (aa,c)=>some (cU++aa,.fn f a c)
     |none=>none
    |none=>none
 | .iface t x=>match BC x with
   |some (cU,x)=>some (cU,.iface t x)
   |none=>none
 | .agg Q=>match zH Q with
   |some (cU,Q)=>some (cU,.agg Q)
   |none=>none
 | .ew Q=>match zH Q with
   |some (cU,Q)=>some (cU,.ew Q)
   |none=>none
 | .bool b=>some ([],.bool b)
 | .int k n=>some ([],.int k n)
 | .str s=>some ([],.str s)
 | .ptr none=>some ([],.ptr none)
 | .dx none l c e=>some ([],.dx none l c e)
 | .map none=>some ([],.map none)
 | .kT=>some ([],.kT)
 | .nilIface=>some ([],.nilIface)
 | .dV f n Q=>some ([],.dV f n Q)
 | .eK Q=>some ([],.eK Q)
def zH:ag->Option (ah×ag)
 | []=>some ([],[])
 |x::xs=>match BC x with
  |some (cU,x)=>match zH xs with
   |some (aa,xs)=>some (cU++aa,x::xs)
   |none=>none
  |none=>none
end
end
def aaF(fl:Nat->Option (ai))(E:Env)(φ:Nat->Option (Array Value)):Prop:=
 ∀m Q,fl m=some Q->∀b s,E.ι m=some (b,s)->∃c vs,φ b=some c/\iH φ Q vs/\∀(j:Nat) (x:Value),vs[j]? =some x->c[s+j]? =some x
section
variable{fl:Nat->Option (ai)}{E E':Env}(hF:aaF fl E E'.φ)(jl:∀m,E'.ι m=E.ι m)(pP:E'.β=E.β)(lJ:∀b c,E.φ b=some c->E'.φ b=some c)
include hF jl pP lJ
mutual
theorem ur:∀(v v2:V) (cU:ah) (v':Value),BC fl v=some (cU,v2)->(∀a∈cU,a)->dJ E v v'->dJ E' v2 v'
 | .bool _,v2,cU,_,h,_,r=>by simp only[BC,an,aB]at h;obtain⟨rfl,rfl⟩:=h;exact r
 | .int _ _,v2,cU,_,h,_,r=>by simp only[BC,an,aB]at h;obtain⟨rfl,rfl⟩:=h;exact r
 | .str _,v2,cU,_,h,_,r=>by simp only[BC,an,aB]at h;obtain⟨rfl,rfl⟩:=h;exact r
 | .ptr none,v2,cU,_,h,_,r=>by simp only[BC,an,aB]at h;obtain⟨rfl,rfl⟩:=h;exact r
 | .dx none _ _ _,v2,cU,_,h,_,r=>by simp only[BC,an,aB]at h;obtain⟨rfl,rfl⟩:=h;exact r
 | .map none,v2,cU,_,h,_,r=>by simp only[BC,an,aB]at h;obtain⟨rfl,rfl⟩:=h;exact r
 | .kT,v2,cU,_,h,_,r=>by simp only[BC,an,aB]at h;obtain⟨rfl,rfl⟩:=h;exact r
 | .nilIface,v2,cU,_,h,_,r=>by simp only[BC,an,aB]at h;obtain⟨rfl,rfl⟩:=h;exact r
 | .dV f n Q,v2,cU,_,h,_,r=>by
   simp only[BC,an,aB]at h;obtain⟨rfl,rfl⟩:=h;exact⟨ld lJ _ _ r.1,r.2⟩
 | .eK Q,v2,cU,_,h,_,⟨b,o,c,vs,e,e1,r,q⟩=>by
   simp only[BC,an,aB]at h;obtain⟨rfl,rfl⟩:=h;exact⟨b,o,c,vs,e,lJ _ _ e1,jf lJ Q vs r,q⟩
 | .ptr (some (m,o)),v2,cU,_,h,_,⟨b,s,e,q⟩=>by
   simp only[BC]at h;split at h
   . cases h
   . obtain⟨rfl,rfl⟩:=fg h;exact⟨b,s,(jl m).trans e,q⟩
 | .map (some m),v2,cU,_,h,_,⟨b,e,q⟩=>by
   simp only[BC]at h;split at h
   . cases h
   . obtain⟨rfl,rfl⟩:=fg h;exact⟨b,(jl m).trans e,q⟩
 | .dx (some (m,o)) T A jJ,v2,cU,_,h,hA,⟨b,s,o',gq,e,q1,q2,q3,q4,q5⟩=>by
   simp only[BC]at h;split at h
   . rename_i Q pT;obtain⟨c,vs,k1,k2,k3⟩:=hF m Q pT b s e;have key:∀(ds:ai) (us:List Value),iH E'.φ ds us->(T=0->ds=[])->(0<T->∀(j:Nat) (x:Value),us[j]? =some x->c[s+o+j]? =some x)->dJ E' (.dV false T ds) (.slice (some ⟨b,o',none⟩) T gq):=by
      intro ds us X h2 h3;refine⟨⟨_,gq,us,rfl,L,X,h2,fun hp=>⟨b,o',c,rfl,k1,?_⟩⟩,fun q=>by cases q⟩;rw[q1 L];exact h3 hp
     split at h
     . obtain⟨rfl,rfl⟩:=fg h;rw[q5];have hl:Q.length=T*jJ:=hA _ (au.2 rfl);refine key Q vs k2 (fun z=>?_) (fun _ j x M=>by rw[Nat.add_zero];exact k3 j x M);rw[z,Nat.zero_mul]at hl;exact cC.1 hl
     . rename_i o;obtain⟨rfl,rfl⟩:=fg h;rw[q5];refine key _ _ (tL (oz k2)) (fun z=>by rw[z];simp) (fun _ j x M=>?_);rw[bQ]at M;split at M
       . rw[bL]at M;rw[<- k3 _ x M,cE]
       . cases M
   . obtain⟨rfl,rfl⟩:=fg h;exact⟨b,s,o',gq,(jl m).trans e,q1,q2,q3,by rw[pP];exact q4,q5⟩
 | .fn f a c,v2,cU,_,h,hA,⟨f',a',c',rf,ra,rc,q⟩=>by
   simp only[BC]at h;split at h
   . rename_i m;split at h
     . cases h
     . split at h
       case h_2=>cases h
       rename_i A1 a2 ha;split at h
       case h_2=>cases h
       rename_i B1 c2 J;obtain⟨rfl,rfl⟩:=fg h;obtain⟨l,s,e,q2⟩:=rf;exact⟨f',a',c',⟨l,s,(jl m).trans e,q2⟩,mL a a2 A1 a' ha (fun x M=>hA x (aW.2 (.inl M))) ra,mL c c2 B1 c' J (fun x M=>hA x (aW.2 (.inr M))) rc,q⟩
   . rename_i fS;split at h
     case h_2=>cases h
     rename_i A1 a2 ha;split at h
     case h_2=>cases h
     rename_i B1 c2 J;obtain⟨rfl,rfl⟩:=fg h;refine⟨f',a',c',?_,mL a a2 A1 a' ha (fun x M=>hA x (aW.2 (.inl M))) ra,mL c c2 B1 c' J (fun x M=>hA x (aW.2 (.inr M))) rc,q⟩;cases f<;>first|exact rf|exact(fS _ rfl).elim
 | .iface t x,v2,cU,_,h,hA,⟨x',r,q⟩=>by
   simp only[BC]at h;split at h
   . rename_i A1 x2 M;obtain⟨rfl,rfl⟩:=fg h;exact⟨x',ur x x2 _ x' M hA r,q⟩
   . cases h
 | .agg Q,v2,cU,_,h,hA,⟨cs',r,q⟩=>by
   simp only[BC]at h;split at h
   . rename_i A1 x2 M;obtain⟨rfl,rfl⟩:=fg h;exact⟨cs',mL Q x2 _ cs' M hA r,q⟩
   . cases h
 | .ew Q,v2,cU,_,h,hA,⟨cs',r,q⟩=>by
   simp only[BC]at h;split at h
   . rename_i A1 x2 M;obtain⟨rfl,rfl⟩:=fg h;exact⟨cs',mL Q x2 _ cs' M hA r,q⟩
   . cases h
theorem mL:∀(v v2:ag) (cU:ah) (v':List Value),zH fl v=some (cU,v2)->(∀a∈cU,a)->dK E v v'->dK E' v2 v'
 | [],v2,cU,_,h,_,r=>by simp only[zH,an,aB]at h;obtain⟨rfl,rfl⟩:=h;exact r
 |x::xs,v2,cU,_,h,hA,⟨y,ys,r,O,q⟩=>by
  simp only[zH]at h;split at h
  case h_2=>cases h
  rename_i A1 x2 M;split at h
  case h_2=>cases h
  rename_i B1 O0 CR;obtain⟨rfl,rfl⟩:=fg h;exact⟨y,ys,ur x x2 A1 y M (fun a ha=>hA a (aW.2 (.inl ha))) r,mL xs O0 B1 ys CR (fun a ha=>hA a (aW.2 (.inr ha))) O,q⟩
end
end
def s8:rs->Option (ai)
 | .deep Q=>some Q
 | .own k ks=>some (ks.map (.int k))
 | .cells Q=>iB Q
 |_=>none
section
variable(fl:Nat->Option (ai))
def Dw:H V->Option (ah×H V)
 | .nil=>some ([],.nil)
 | .node v l r=>match(match v with
    |none=>some ([],none)
    |some v=>match BC fl v with
     |some (cU,v)=>some (cU,some v)
     |none=>none:Option (ah×Option V))with
   |some (cU,v)=>match Dw l with
    |some (aa,l)=>match Dw r with
     |some (es,r)=>some (cU++(aa++es),.node v l r)
     |none=>none
    |none=>none
   |none=>none
def RP:List (V×V×Nat)->Option (ah×List (V×V×Nat))
 | []=>some ([],[])
 |x::xs=>match BC fl x.1 with
  |some (cU,k)=>match BC fl x.2.1 with
   |some (aa,v)=>match RP xs with
    |some (es,xs)=>some (cU++(aa++es),(k,v,x.2.2)::xs)
    |none=>none
   |none=>none
  |none=>none
def Jg:rs->Option (ah×rs)
 | .cells Q=>match zH fl Q with
   |some (cU,Q)=>some (cU,.cells Q)
   |none=>none
 | .map C c=>match RP fl C with
   |some (cU,C)=>some (cU,.map C c)
   |none=>none
 | .oh s p=>some ([],.oh s p)
 | .ints k ks=>some ([],.ints k ks)
 | .own k ks=>some ([],.own k ks)
 | .deep Q=>some ([],.deep Q)
 | .ia e f s=>some ([],.ia e f s)
 | .BO t s x=>match BC fl x with
   |some (cU,x)=>some (cU,.BO t s x)
   |none=>none
 | .dy k C=>some ([],.dy k C)
 | .nf=>some ([],.nf)
 | .loop st pe S ps a b=>match Dw fl S with
   |some (cU,S)=>some (cU,.loop st pe S ps a b)
   |none=>none
def FM:H rs->Option (ah×H rs)
 | .nil=>some ([],.nil)
 | .node v l r=>match(match v with
    |none=>some ([],none)
    |some v=>match Jg fl v with
     |some (cU,v)=>some (cU,some v)
     |none=>none:Option (ah×Option rs))with
   |some (cU,v)=>match FM l with
    |some (aa,l)=>match FM r with
     |some (es,r)=>some (cU++(aa++es),.node v l r)
     |none=>none
    |none=>none
   |none=>none
def RQ:List (FuncId×ag×ag)->Option (ah×List (FuncId×ag×ag))
 | []=>some ([],[])
 |x::xs=>match zH fl x.2.1 with
  |some (cU,c)=>match zH fl x.2.2 with
   |some (aa,a)=>match RQ xs with
    |some (es,xs)=>some (cU++(aa++es),(x.1,c,a)::xs)
    |none=>none
   |none=>none
  |none=>none
end
def fzN(h:H rs)(ms:List Nat)(m:Nat):Option (ai):=match ms.any (Nat.beq m)with
 |true=>match h.get m with
  |some o=>s8 o
  |none=>none
 |false=>none
def Nj(h:H rs):List Nat->Bool
 | []=>true
 |m::ms=>Nat.blt m fW&&((match h.get m with|some o=>(match s8 o with|some _=>true|none=>false)|none=>false)&&Nj h ms)
def zI:List Nat->H rs->H rs
 | [],h=>h
 |m::ms,h=>zI ms (h.set m none)
def fzS(ms:List Nat)(s:St):Option (ah×St):=match Nj s.h ms with
 |true=>match Dw (fzN s.h ms) s.S with
  |some (cU,S)=>match FM (fzN s.h ms) s.h with
   |some (aa,h)=>match RQ (fzN s.h ms) s.gD with
    |some (es,d)=>some (cU++(aa++es),{ S:=S,h:=zI ms h,n:=s.n,gD:=d })
    |none=>none
   |none=>none
  |none=>none
 |false=>none
theorem wT{fl:Nat->Option (ai)}:∀(t t2:H V) (cU:ah),Dw fl t=some (cU,t2)->∀k v2,t2.get k=some v2->∃v aa,t.get k=some v/\BC fl v=some (aa,v2)/\∀b∈aa,b∈cU
 | .nil,t2,cU,h,k,v2,hk=>by simp only[Dw,an,aB]at h;obtain⟨_,rfl⟩:=h;simp[H.get]at hk
 | .node v l r,t2,cU,h,k,v2,hk=>by
   simp only[Dw]at h;split at h
   case h_2=>cases h
   rename_i A1 v1 X;split at h
   case h_2=>cases h
   rename_i B1 l1 hl;split at h
   case h_2=>cases h
   rename_i C1 r1 hr;obtain⟨rfl,rfl⟩:=fg h;simp only[H.get]at hk ⊢;split at hk
   . subst hk;cases v with
     |none=>simp at X
     |some v=>
      simp only at X;split at X
      . rename_i A0 v0 h0;simp only[aB,an]at X;obtain⟨rfl,rfl⟩:=X;exact⟨v,A0,rfl,h0,fun b hb=>aW.2 (.inl hb)⟩
      . cases X
   . rename_i k;split at hk
     . rename_i alx;obtain⟨v,aa,q1,q2,q3⟩:=wT l l1 B1 hl _ v2 hk;exact⟨v,aa,q1,q2,fun b hb=>aW.2 (.inr (aW.2 (.inl (q3 b hb))))⟩
     . rename_i alx;obtain⟨v,aa,q1,q2,q3⟩:=wT r r1 C1 hr _ v2 hk;exact⟨v,aa,q1,q2,fun b hb=>aW.2 (.inr (aW.2 (.inr (q3 b hb))))⟩
theorem AN{fl:Nat->Option (ai)}:∀(t t2:H rs) (cU:ah),FM fl t=some (cU,t2)->∀k v2,t2.get k=some v2->∃v aa,t.get k=some v/\Jg fl v=some (aa,v2)/\∀b∈aa,b∈cU
 | .nil,t2,cU,h,k,v2,hk=>by simp only[FM,an,aB]at h;obtain⟨_,rfl⟩:=h;simp[H.get]at hk
 | .node v l r,t2,cU,h,k,v2,hk=>by
   simp only[FM]at h;split at h
   case h_2=>cases h
   rename_i A1 v1 X;split at h
   case h_2=>cases h
   rename_i B1 l1 hl;split at h
   case h_2=>cases h
   rename_i C1 r1 hr;obtain⟨rfl,rfl⟩:=fg h;simp only[H.get]at hk ⊢;split at hk
   . subst hk;cases v with
     |none=>simp at X
     |some v=>
      simp only at X;split at X
      . rename_i A0 v0 h0;simp only[aB,an]at X;obtain⟨rfl,rfl⟩:=X;exact⟨v,A0,rfl,h0,fun b hb=>aW.2 (.inl hb)⟩
      . cases X
   . rename_i k;split at hk
     . obtain⟨v,aa,q1,q2,q3⟩:=AN l l1 B1 hl _ v2 hk;exact⟨v,aa,q1,q2,fun b hb=>aW.2 (.inr (aW.2 (.inl (q3 b hb))))⟩
     . obtain⟨v,aa,q1,q2,q3⟩:=AN r r1 C1 hr _ v2 hk;exact⟨v,aa,q1,q2,fun b hb=>aW.2 (.inr (aW.2 (.inr (q3 b hb))))⟩
section
variable{fl:Nat->Option (ai)}{E E':Env}(hF:aaF fl E E'.φ)(jl:∀m,E'.ι m=E.ι m)(pP:E'.β=E.β)(lJ:∀b c,E.φ b=some c->E'.φ b=some c)
include hF jl pP lJ
theorem Jh:∀(C xx:List (V×V×Nat)) (cU:ah) (l:List MapEntry),RP fl C=some (cU,xx)->(∀a∈cU,a)->kX E C l->kX E' xx l
 | [],xx,cU,_,h,_,r=>by simp only[RP,an,aB]at h;obtain⟨rfl,rfl⟩:=h;exact r
 |x::xs,xx,cU,_,h,hA,⟨y,ys,r1,r2,r3,O,q⟩=>by
  simp only[RP]at h;split at h
  case h_2=>cases h
  rename_i A1 k hk;split at h
  case h_2=>cases h
  rename_i B1 v hv;split at h
  case h_2=>cases h
  rename_i C1 O0 CR;obtain⟨rfl,rfl⟩:=fg h;exact⟨y,ys,ur hF jl pP lJ _ _ _ _ hk (fun a ha=>hA a (by simp[ha])) r1,ur hF jl pP lJ _ _ _ _ hv (fun a ha=>hA a (by simp[ha])) r2,r3,Jh xs O0 C1 ys CR (fun a ha=>hA a (by simp[ha])) O,q⟩
theorem VR{w:World}{b s:Nat}:∀(o o2:rs) (cU:ah),Jg fl o=some (cU,o2)->(∀a∈cU,a)->mC E w b s o->mC E' w b s o2
 | .cells Q,o2,cU,h,hA,⟨c,el,fz,X,h2,h3,h4⟩=>by
   simp only[Jg]at h;split at h
   case h_2=>cases h
   rename_i A1 vK pT;obtain⟨rfl,rfl⟩:=fg h;obtain⟨vs,k1,k2⟩:=sJ.1 h4;exact⟨c,el,fz,X,by rw[pP];exact h2,h3,sJ.2 ⟨vs,mL hF jl pP lJ _ _ _ _ pT hA k1,k2⟩⟩
 | .map C cl,o2,cU,h,hA,⟨hs,gi,X,h2⟩=>by
   simp only[Jg]at h;split at h
   case h_2=>cases h
   rename_i A1 xx U1;obtain⟨rfl,rfl⟩:=fg h;exact⟨hs,gi,X,Jh hF jl pP lJ _ _ _ _ U1 hA h2⟩
 | .oh st p,o2,cU,h,_,r=>by simp only[Jg,an,aB]at h;obtain⟨rfl,rfl⟩:=h;exact r
 | .ints k ks,o2,cU,h,_,⟨c,el,fz,X,h2,h3⟩=>by simp only[Jg,an,aB]at h;obtain⟨rfl,rfl⟩:=h;exact⟨c,el,fz,X,by rw[pP];exact h2,h3⟩
 | .own k ks,o2,cU,h,_,⟨c,el,fz,X,h2,h3,h4⟩=>by simp only[Jg,an,aB]at h;obtain⟨rfl,rfl⟩:=h;exact⟨c,el,fz,X,by rw[pP];exact h2,h3,xq h4⟩
 | .deep Q,o2,cU,h,_,⟨c,el,fz,vs,X,h2,h3,h4,h5⟩=>by simp only[Jg,an,aB]at h;obtain⟨rfl,rfl⟩:=h;exact⟨c,el,fz,vs,X,by rw[pP];exact h2,h3,jf lJ _ _ h4,h5⟩
 | .ia el Bg t,o2,cU,h,_,⟨c,fz,xs,X,h0,h2,h3⟩=>by simp only[Jg,an,aB]at h;obtain⟨rfl,rfl⟩:=h;exact⟨c,fz,xs,X,h0,by rw[pP];exact h2,h3⟩
 | .BO t self x,o2,cU,h,hA,⟨hs,x',fz,X,h2,h3,h4⟩=>by
   simp only[Jg]at h;split at h
   case h_2=>cases h
   rename_i A1 x2 M;obtain⟨rfl,rfl⟩:=fg h;exact⟨hs,x',fz,X,by rw[pP];exact h2,h3,ur hF jl pP lJ _ _ _ _ M hA h4⟩
 | .dy kk C,o2,cU,h,_,⟨hs,gi,cl,X,h2⟩=>by simp only[Jg,an,aB]at h;obtain⟨rfl,rfl⟩:=h;exact⟨hs,gi,cl,X,h2.mono lJ⟩
 | .nf,o2,cU,h,_,r=>by simp only[Jg,an,aB]at h;obtain⟨rfl,rfl⟩:=h;exact r
 | .loop st pe S ps a b',o2,cU,h,hA,⟨r,X,h2,h3,h4,h5,h6,h7,h8⟩=>by
   simp only[Jg]at h;split at h
   case h_2=>cases h
   rename_i A1 yb yN;obtain⟨rfl,rfl⟩:=fg h;refine⟨r,X,h2,h3,h4,h5,h6,fun t v e=>?_,h8⟩;obtain⟨v0,aa,q1,q2,q3⟩:=wT _ _ _ yN t v e;obtain⟨v',k1,k2⟩:=h7 t v0 q1;exact⟨v',k1,ur hF jl pP lJ _ _ _ _ q2 (fun x M=>hA x (q3 x M)) k2⟩
theorem Ji:∀(xs O0:List (FuncId×ag×ag)) (cU:ah) (ys:List Deferred),RQ fl xs=some (cU,O0)->(∀a∈cU,a)->xz E xs ys->xz E' O0 ys
 | [],O0,cU,_,h,_,r=>by simp only[RQ,an,aB]at h;obtain⟨rfl,rfl⟩:=h;exact r
 |x::xs,O0,cU,_,h,hA,⟨d,ys,r1,O,q⟩=>by
  simp only[RQ]at h;split at h
  case h_2=>cases h
  rename_i A1 c J;split at h
  case h_2=>cases h
  rename_i B1 a ha;split at h
  case h_2=>cases h
  rename_i C1 xs3 CR;obtain⟨rfl,rfl⟩:=fg h;refine⟨d,ys,?_,Ji xs xs3 C1 ys CR (fun a ha=>hA a (by simp[ha])) O,q⟩;rcases r1 with⟨M,c',a',q1,q2,q3⟩|⟨M,m,b,s,q1,q2,q3⟩
  . exact .inl ⟨M,c',a',mL hF jl pP lJ _ _ _ _ J (fun a ha=>hA a (by simp[ha])) q1,mL hF jl pP lJ _ _ _ _ ha (fun a ha=>hA a (by simp[ha])) q2,q3⟩
  . refine .inr ⟨M,m,b,s,?_,(jl m).trans q2,q3⟩;have q1:x.2.2=[V.map (some m)]:=q1;rw[q1]at ha;simp only[zH,BC]at ha;cases W:fl m with
    |some _=>rw[W]at ha;cases ha
    |none=>rw[W]at ha;simp only[an,aB]at ha;exact ha.2.symm
end
theorem aaI{fl:Nat->Option (ai)}{o o2:rs}{cU:ah}(h:Jg fl o=some (cU,o2)):o2.wr=o.wr:=by
 cases o<;>simp only[Jg]at h<;>(try split at h)<;>first|(simp only[an,aB]at h;obtain⟨_,rfl⟩:=h;rfl)|cases h
theorem FN:∀(ms:List Nat) (h:H rs) (k:Nat),(∀m∈ms,m<fW)->(zI ms h).get k=if k∈ms then none else h.get k
 | [],h,k,_=>by simp[zI]
 |m::ms,h,k,ht=>by
  rw[zI,FN ms _ k fun m W=>ht m (by simp[W]),H.eY _ _ _ (ht m (by simp))];by_cases X:k∈ms
  . simp[X]
  . by_cases h2:k=m
    . simp[h2]
    . simp[X,h2]
theorem Dx{h:H rs}:∀{ms:List Nat},Nj h ms=true->∀m∈ms,m<fW/\∃o Q,h.get m=some o/\s8 o=some Q
 | [],_,m,W=>by simp at W
 |x::ms,h,m,W=>by
  simp only[Nj,aE]at h;rcases aD.1 W with rfl|W
  . refine⟨ax h.1,?_⟩;have:=h.2.1;split at this
    . rename_i o ho;split at this
      . rename_i Q J;exact⟨o,Q,ho,J⟩
      . cases this
    . cases this
  . exact Dx h.2.2 m W
theorem RT{h:H rs}{ms:List Nat}{m:Nat}{Q:ai}(e:fzN h ms m=some Q):m∈ms/\∃o,h.get m=some o/\s8 o=some Q:=by
 unfold fzN at e;split at e
 . rename_i ha;split at e
   . rename_i o ho;obtain⟨x,M,q⟩:=List.any_eq_true.1 ha;have:=aG q;subst this;exact⟨M,o,ho,e⟩
   . cases e
 . cases e
theorem Hl{o:rs}{Q:ai}(h:s8 o=some Q):o.wr=true:=by cases o<;>simp[s8]at h<;>rfl
theorem RU{E:Env}{w:World}{b s:Nat}{o:rs}{Q:ai}(h:s8 o=some Q)(r:mC E w b s o):∃c el fz vs,w.heap[b]? =some (.cells c el fz)/\iH E.φ Q vs/\∀(j:Nat) (x:Value),vs[j]? =some x->c[s+j]? =some x:=by
 cases o<;>simp only[s8,an,reduceCtorEq]at h
 . obtain⟨c,el,fz,X,_,_,h4⟩:=r;obtain⟨vs,k1,k2⟩:=sJ.1 h4;exact⟨c,el,fz,vs,X,tM h k1,k2⟩
 . rename_i k ks;subst h;obtain⟨c,el,fz,X,_,_,h4⟩:=r;have e:lf.lQ (ks.map (.int k))=ks.map (.int k):=by rw[lf.gB,List.map_map];rfl
   obtain⟨vs,k1,k2⟩:=(oA (fun x M=>by obtain⟨_,_,rfl⟩:=bF.1 M;rfl)).1 (by rw[e];exact h4:mH E s (lf.lQ (ks.map (.int k))) c);exact⟨c,el,fz,vs,X,k1,k2⟩
 . subst h;obtain⟨c,el,fz,vs,X,_,_,h4,h5⟩:=r;exact⟨c,el,fz,vs,X,h4,h5⟩
open Classical in
noncomputable def Ho(E:Env)(fl:Nat->Option (ai))(w:World)(b:Nat):Option (Array Value):=if ∃m s,(fl m).isSome=true/\E.ι m=some (b,s)then(match w.heap[b]? with|some (.cells c _ _)=>some c|_=>none)else E.φ b
theorem wU{I rt:Nat}{ms:List Nat}{s s2:St}{cU:ah}{E:Env}{a:Act}{w:World}(e:fzS ms s=some (cU,s2))(hA:∀x∈cU,x)(r:kI E rt s a w)(hn:I<=s.n):
  ∃E2,kI E2 rt s2 a w/\l7 I E s.h w E2 s2.h w/\I<=s2.n/\(∀m,E2.ι m=E.ι m):=by
 unfold fzS at e;split at e
 case h_2=>cases e
 rename_i VS;split at e
 case h_2=>cases e
 rename_i A1 yb yN;split at e
 case h_2=>cases e
 rename_i B1 h2 hh;split at e
 case h_2=>cases e
 rename_i C1 d2 GX;simp only[an,aB]at e;obtain⟨rfl,rfl⟩:=e;have VS:=Dx VS;generalize hFd:fzN s.h ms=fl at *;have g:=r.good;have hFm:∀m Q,fl m=some Q->m∈ms/\∃o,s.h.get m=some o/\s8 o=some Q:=fun m Q q=>RT (h:=s.h) (ms:=ms) (by rw[hFd];exact q);have hmF:∀m,m∈ms->(fl m).isSome=true:=by
  intro m W;obtain⟨_,o,Q,X,h3⟩:=VS m W;rw[<- hFd];unfold fzN;rw[show ms.any (Nat.beq m)=true from List.any_eq_true.2 ⟨m,W,cP m⟩,X];simp only[h3];rfl
 have vw:∀b c,E.φ b=some c->Ho E fl w b=some c:=by
  intro b c q;unfold Ho;rw[aJ];. exact q
  rintro⟨m,s',X,h3⟩;obtain⟨Q,pT⟩:=cm.1 X;obtain⟨_,o,k1,k2⟩:=hFm m Q pT;exact(g.gX b c q).2 m s' ⟨o,k1,Hl k2⟩ h3
 let E2:Env:=⟨E.ι,E.β,Ho E fl w⟩
 have hFz:aaF fl E E2.φ:=by
  intro m Q pT b s' hb;obtain⟨_,o,k1,k2⟩:=hFm m Q pT;obtain⟨b',t,q1,q2⟩:=g.rel m o k1;rw[hb]at q1;cases q1;obtain⟨c,el,fz,vs,p1,p2,p3⟩:=RU k2 q2;refine⟨c,vs,?_,jf vw _ _ p2,p3⟩;show Ho E fl w b=some c;unfold Ho;rw[aF ⟨m,s',by rw[pT];rfl,hb⟩,p1]
 have hA1:∀x∈A1,x:=fun x M=>hA x (by simp[M]);have hB1:∀x∈B1,x:=fun x M=>hA x (by simp[M]);have hC1:∀x∈C1,x:=fun x M=>hA x (by simp[M]);have kY:∀k o2,(zI ms h2).get k=some o2->k∉ms/\∃o aa,s.h.get k=some o/\Jg fl o=some (aa,o2)/\∀b∈aa,b:=by
  intro k o2 q;rw[FN ms h2 k fun m W=>(VS m W).1]at q;split at q
  . cases q
  . rename_i hk;obtain⟨o,aa,q1,q2,q3⟩:=AN _ _ _ hh k o2 q;exact⟨hk,o,aa,q1,q2,fun b hb=>hB1 b (q3 b hb)⟩
 have uL:∀k,eG (zI ms h2) k->k∉ms/\eG s.h k:=by
  rintro k ⟨o2,q1,q2⟩;obtain⟨hk,o,aa,p1,p2,_⟩:=kY k o2 q1;exact⟨hk,o,p1,(aaI p2).symm.trans q2⟩
 have GC:∀k,(zI ms h2).get k≠none->s.h.get k≠none:=by
  intro k q;obtain⟨o2,q⟩:=bh.1 q;obtain⟨_,o,_,p1,_⟩:=kY k o2 q;rw[p1];simp
 have qZ:Good E2 (zI ms h2) w:=by
  refine⟨fun m o2 W=>?_,fun m m' b t t' fS W tN e1 e2=>g.inj m m' b t t' fS (uL m W).2 (GC m' tN) e1 e2,g.ny,g.jy,fun b c q=>?_⟩
  . obtain⟨_,o,aa,p1,p2,p3⟩:=kY m o2 W;obtain⟨b,t,q1,q2⟩:=g.rel m o p1;exact⟨b,t,q1,VR (E':=E2) hFz (fun _=>rfl) rfl vw o o2 aa p2 p3 q2⟩
  . have q:Ho E fl w b=some c:=q;unfold Ho at q;split at q
    . rename_i Lf;obtain⟨m,t,X,h3⟩:=Lf;obtain⟨Q,pT⟩:=cm.1 X;obtain⟨hms,o,k1,k2⟩:=hFm m Q pT;refine⟨?_,fun m' t' tN e1=>?_⟩
      . split at q
        . rename_i c' el fz J;cases q;exact⟨el,fz,J⟩
        . cases q
      . obtain⟨hnm,hw'⟩:=uL m' tN;exact g.inj m m' b t t' (fun z=>hnm (z▸hms)) ⟨o,k1,Hl k2⟩ hw'.live h3 e1
    . exact⟨(g.gX b c q).1,fun m' t' tN=>(g.gX b c q).2 m' t' (uL m' tN).2⟩
 refine⟨E2,⟨qZ,r.oI,fun t v2 hv=>?_,r.size,Ji (E':=E2) hFz (fun _=>rfl) rfl vw _ _ _ _ GX hC1 r.gD⟩,⟨fun m b t _ q=>⟨q,rfl⟩,fun _ _=>rfl,vw,qZ,aC _,rfl,rfl,rfl,fun _ _ _=>rfl,fun m b t W q _=>⟨m,t,GC m W,q,fun z=>(uL m z).2⟩,fun b c q=>?_⟩,hn,fun _=>rfl⟩
 . obtain⟨v,aa,q1,q2,q3⟩:=wT _ _ _ yN t v2 hv;obtain⟨v',k1,k2⟩:=r.S t v q1;exact⟨v',k1,ur (E':=E2) hFz (fun _=>rfl) rfl vw _ _ _ _ q2 (fun x M=>hA1 x (q3 x M)) k2⟩
 . have q:Ho E fl w b=some c:=q;unfold Ho at q;split at q
   . rename_i Lf;obtain⟨m,t,X,h3⟩:=Lf;obtain⟨Q,pT⟩:=cm.1 X;obtain⟨_,o,k1,k2⟩:=hFm m Q pT;exact .inr (.inr ⟨m,t,⟨o,k1,Hl k2⟩,h3⟩)
   . exact .inl q
theorem Dy{P:Program}{I rt:Nat}{c:Code}{s s2:St}{cU:ah}{cs:Exit->St->Prop}(ms:List Nat)(e:fzS ms s=some (cU,s2))(hA:∀x∈cU,x)(h:TG P I rt c s2 cs):TG P I rt c s cs:=by
 intro E a w hL r hn k;obtain⟨E2,r2,u2,xV,_⟩:=wU e hA r hn;exact h E2 a w hL r2 xV fun y s' E' a' w' q u qb r'=>k y s' E' a' w' q (u2.trans u) qb r'
def FO(h:H rs):List Nat->Option (H rs)
 | []=>some h
 |m::r=>match h.get m with
  |some (.cells Q)=>match iB Q with
   |some ds=>match Nat.blt m fW with
    |true=>FO (h.set m (some (.deep ds))) r
    |false=>none
   |none=>none
  |some (.own k ks)=>match Nat.blt m fW with
   |true=>FO (h.set m (some (.deep (ks.map (.int k))))) r
   |false=>none
  |_=>none
section
variable{E:Env}{w:World}{b s:Nat}
theorem s9{h:H rs}{w:World}{m:Nat}{o o2:rs}(ht:m<fW)(W:h.get m=some o)(hw:o.wr=true)(ho:∀b s,E.ι m=some (b,s)->mC E w b s o->mC E w b s o2)(g:Good E h w):
  Good E (h.set m (some o2)) w/\∀j,((h.set m (some o2)).get j≠none↔h.get j≠none)/\(eG (h.set m (some o2)) j->eG h j):=by
 have kY:∀j,(h.set m (some o2)).get j=if j=m then some o2 else h.get j:=fun j=>H.eY _ _ _ ht
 have GC:∀j,((h.set m (some o2)).get j≠none↔h.get j≠none)/\(eG (h.set m (some o2)) j->eG h j):=by
  intro j;rw[kY];by_cases q:j=m
  . subst q;rw[aF rfl,W];exact⟨by simp,fun _=>⟨_,W,hw⟩⟩
  . rw[aJ q];exact⟨Iff.rfl,fun z=>o9 ht z q⟩
 refine⟨⟨fun j o' hj=>?_,fun j j' b s s' fS hj RM e1 e2=>g.inj j j' b s s' fS ((GC j).2 hj) ((GC j').1.1 RM) e1 e2,g.ny,g.jy,fun b c q=>⟨g.fz b c q,fun m' s tN=>(g.gX b c q).2 m' s ((GC m').2 tN)⟩⟩,GC⟩;rw[kY]at hj;split at hj
 . rename_i q;subst q;obtain rfl:=eE hj;obtain⟨b,s,X,h2⟩:=g.rel j _ W;exact⟨b,s,X,ho b s X h2⟩
 . exact g.rel j o' hj
theorem Lg{Q:ag}{ds:ai}(hd:iB Q=some ds)(r:mC E w b s (.cells Q)):mC E w b s (.deep ds):=by
 obtain⟨c,el,fz,X,h2,h3,h4⟩:=r;obtain⟨vs,k1,k2⟩:=sJ.1 h4;exact⟨c,el,fz,vs,X,h2,h3,tM hd k1,k2⟩
theorem RV{k:IntKind}{ks:List Int}(r:mC E w b s (.own k ks)):mC E w b s (.deep (ks.map (.int k))):=by
 obtain⟨c,el,fz,X,h2,h3,h4⟩:=r;have e:lf.lQ (ks.map (.int k))=ks.map (.int k):=by rw[lf.gB,List.map_map];rfl
 obtain⟨vs,k1,k2⟩:=(oA (fun x M=>by obtain⟨_,_,rfl⟩:=bF.1 M;rfl)).1 (by rw[e];exact h4:mH E s (lf.lQ (ks.map (.int k))) c);exact⟨c,el,fz,vs,X,h2,h3,k1,k2⟩
end
theorem rD{E:Env}{w:World}:∀(l:List Nat) (h h2:H rs),FO h l=some h2->Good E h w->Good E h2 w/\∀m,(h2.get m≠none↔h.get m≠none)/\(eG h2 m->eG h m)
 | [],h,h2,e,g=>by simp only[FO,an]at e;subst e;exact⟨g,fun m=>⟨Iff.rfl,id⟩⟩
 |m::r,h,h2,e,g=>by
  unfold FO at e;split at e
  . rename_i Q W;split at e
    case h_2=>cases e
    rename_i ds hd;split at e
    case h_2=>cases e
    rename_i ht;obtain⟨g1,k1⟩:=s9 (ax ht) W rfl (fun b s _ q=>Lg hd q) g;obtain⟨g2,k2⟩:=rD r _ h2 e g1;exact⟨g2,fun j=>⟨(k2 j).1.trans (k1 j).1,fun z=>(k1 j).2 ((k2 j).2 z)⟩⟩
  . rename_i k ks W;split at e
    case h_2=>cases e
    rename_i ht;obtain⟨g1,k1⟩:=s9 (ax ht) W rfl (fun b s _ q=>RV q) g;obtain⟨g2,k2⟩:=rD r _ h2 e g1;exact⟨g2,fun j=>⟨(k2 j).1.trans (k1 j).1,fun z=>(k1 j).2 ((k2 j).2 z)⟩⟩
  . cases e
def Dz(l:List Nat)(s:St):Option St:=match FO s.h l with
 |some h=>some { s with h:=h }
 |none=>none
theorem Lh{P:Program}{I rt:Nat}{c:Code}{s:St}{h2:H rs}{cs:Exit->St->Prop}(hg:∀E w,Good E s.h w->Good E h2 w/\∀m,(h2.get m≠none↔s.h.get m≠none)/\(eG h2 m->eG s.h m))(h:TG P I rt c { s with h:=h2 } cs):TG P I rt c s cs:=by
 intro E a w hL r hn k;obtain⟨g2,k2⟩:=hg E w r.good;have u:l7 I E s.h w E h2 w:=⟨fun _ _ _ _ e=>⟨e,rfl⟩,fun _ _=>rfl,fun _ _ q=>q,g2,aC _,rfl,rfl,rfl,fun _ _ _=>rfl,fun m b s1 W e1 _=>⟨m,s1,(k2 m).1.1 W,e1,(k2 m).2⟩,fun _ _ q=>.inl q⟩;exact h E a w hL ⟨g2,r.oI,r.S,r.size,r.gD⟩ hn fun y s' E' a' w' q u' qb r'=>k y s' E' a' w' q (u.trans u') qb r'
theorem wV{P:Program}{I rt:Nat}{c:Code}{s s2:St}{cs:Exit->St->Prop}(l:List Nat)(e:Dz l s=some s2)(h:TG P I rt c s2 cs):TG P I rt c s cs:=by
 unfold Dz at e;split at e
 case h_2=>cases e
 rename_i h2 hh;obtain rfl:=eE e;exact Lh (fun E w g=>rD l s.h h2 hh g) h
theorem Pc{E:Env}{w:World}{b s:Nat}{c:Nat}(kd:Option IntKind)(r:mC E w b s (.map [] c)):mC E w b s (.dy kd []):=by
 obtain⟨hs,gi,X,h2⟩:=r;have:gi.toList=[]:=h2;refine⟨hs,gi,c,X,⟨⟨[],.refl _,by rw[this];rfl⟩,by simp,by simp,by rw[this];simp,by rw[this];simp⟩⟩
def RW(h:H rs):List (Nat×Option IntKind)->Option (H rs)
 | []=>some h
 |(m,kd)::r=>match h.get m with
  |some (.map [] _)=>match Nat.blt m fW with
   |true=>RW (h.set m (some (.dy kd []))) r
   |false=>none
  |_=>none
theorem AO{E:Env}{w:World}:∀(l:List (Nat×Option IntKind)) (h h2:H rs),RW h l=some h2->Good E h w->Good E h2 w/\∀m,(h2.get m≠none↔h.get m≠none)/\(eG h2 m->eG h m)
 | [],h,h2,e,g=>by simp only[RW,an]at e;subst e;exact⟨g,fun m=>⟨Iff.rfl,id⟩⟩
 |(m,kd)::r,h,h2,e,g=>by
  unfold RW at e;split at e
  case h_2=>cases e
  rename_i c W;split at e
  case h_2=>cases e
  rename_i ht;obtain⟨g1,k1⟩:=s9 (ax ht) W rfl (fun b s _ q=>Pc kd q) g;obtain⟨g2,k2⟩:=AO r _ h2 e g1;exact⟨g2,fun j=>⟨(k2 j).1.trans (k1 j).1,fun z=>(k1 j).2 ((k2 j).2 z)⟩⟩
def RX(l:List (Nat×Option IntKind))(s:St):Option St:=match RW s.h l with
 |some h=>some { s with h:=h }
 |none=>none
theorem AP{P:Program}{I rt:Nat}{c:Code}{s s2:St}{cs:Exit->St->Prop}(l:List (Nat×Option IntKind))(e:RX l s=some s2)(h:TG P I rt c s2 cs):TG P I rt c s cs:=by
 unfold RX at e;split at e
 case h_2=>cases e
 rename_i h2 hh;obtain rfl:=eE e;exact Lh (fun E w g=>AO l s.h h2 hh g) h
theorem Pd{E:Env}{w:World}{b s:Nat}{kd:Option IntKind}{C xx:ae}(p:List.Perm C xx)(r:mC E w b s (.dy kd C)):mC E w b s (.dy kd xx):=by
 obtain⟨hs,gi,c,X,h2⟩:=r;obtain⟨l,q1,q2⟩:=h2.row;exact⟨hs,gi,c,X,⟨⟨l,q1.trans p,q2⟩,((p.map _).nodup_iff).1 h2.keys,fun e he=>h2.kind e (p.mem_iff.2 he),h2.old,h2.born⟩⟩
def RY:List (List Nat)->St->Option (ah×St)
 | [],s=>some ([],s)
 |ms::r,s=>match fzS ms s with
  |some (cU,s)=>match RY r s with
   |some (aa,s)=>some (cU++aa,s)
   |none=>none
  |none=>none
theorem DA{I rt:Nat}{w:World}{a:Act}:∀(l:List (List Nat)) {s s2:St} {cU:ah} {E:Env},RY l s=some (cU,s2)->(∀x∈cU,x)->kI E rt s a w->I<=s.n->
  ∃E2,kI E2 rt s2 a w/\l7 I E s.h w E2 s2.h w/\I<=s2.n/\(∀m,E2.ι m=E.ι m)
 | [],s,s2,cU,E,e,_,r,hn=>by
   simp only[RY,an,aB]at e;obtain⟨rfl,rfl⟩:=e;exact⟨E,r,.refl r.good,hn,fun _=>rfl⟩
 |ms::l,s,s2,cU,E,e,hA,r,hn=>by
  simp only[RY]at e;split at e
  case h_2=>cases e
  rename_i A1 s1 X;split at e
  case h_2=>cases e
  rename_i B1 s3 h3;obtain⟨rfl,rfl⟩:=fg e;obtain⟨E1,r1,u1,n1,i1⟩:=wU X (fun x M=>hA x (by simp[M])) r hn;obtain⟨E2,r2,u2,n2,i2⟩:=DA l h3 (fun x M=>hA x (by simp[M])) r1 n1;exact⟨E2,r2,u1.trans u2,n2,fun m=>(i2 m).trans (i1 m)⟩
def oe(v:V)(u:V)(h:H rs)(n:Nat):Prop:=∃l cU s2,RY l { S:=H.nil.set 0 (some u),h:=h,n:=n,gD:=[] }=some (cU,s2)/\(∀a∈cU,a)/\s2.S.get 0=some v
theorem oe.self{v:V}{h:H rs}{n:Nat}:oe v v h n:=⟨[],[],_,rfl,by simp,H.nE _ _ dP⟩
theorem DB{E E1:Env}{h h0 h':H rs}{n n':Nat}{w w':World}{u v:V}{en:Ending}(g:Good E h w)(hd:rL E n)(lJ:E1.φ=E.φ)(xk:∀m,¬eG h0 m)(hv:v.deep=true)(hz:oe v u h' n')
  (c:kz E1 h0 gN w (.ret u) h' n' en w'):kz E h n w (.ret v) h n en w':=by
 obtain⟨E2,u2,_,sP,hn,ho⟩:=c;cases en with
 |returned x=>
  have ho:dJ E2 u x:=ho;obtain⟨l,cU,s2,e1,hA,e2⟩:=hz;have sr:kI E2 1 { S:=H.nil.set 0 (some u),h:=h',n:=n',gD:=[] } { tmps:=#[x],defers:=[] } w':=by
   refine⟨u2.good,sP,fun t y hy=>?_,rfl,rfl⟩;rw[H.eY _ _ _ dP]at hy;split at hy
   . rename_i q;subst q;cases hy;exact⟨x,rfl,ho⟩
   . simp[H.get]at hy
  obtain⟨E3,r3,u3,_,_⟩:=DA (I:=0) l e1 hA sr (aX _);obtain⟨x',q1,q2⟩:=r3.S 0 v e2;simp only[List.getElem?_toArray,bK,an]at q1;subst q1;have Y7:∀b,b<w.heap.size->w'.heap[b]? =w.heap[b]?:=fun b hb=>u2.keep b hb fun m s W=>absurd W (xk m);have bl:Below w.heap.size w w':=⟨u2.os,u2.tape,u2.output,u2.size,Y7⟩;have gb:=g.below bl;have Rs:∀b c,E3.φ b=some c->E.φ b=some c\/w.heap.size<=b:=by
   intro b c q;have k3:∀m s,eG h' m->E2.ι m=some (b,s)->w.heap.size<=b:=by
    intro m s W e;rcases bO b w.heap.size with z|z
    . obtain⟨m0,s0,_,_,k0⟩:=u2.uF m b s W.live e z;exact absurd (k0 W) (xk m0)
    . exact z
   rcases u3.Eu b c q with q|q|⟨m,s,p1,p2⟩
   . rcases u2.Eu b c q with q|q|⟨m,s,p1,p2⟩
     . exact .inl (lJ▸q)
     . exact .inr q
     . exact absurd p1 (xk m)
   . exact .inr (bR u2.size q)
   . exact .inr (k3 m s p1 p2)
  have MZ:∀b c,E.φ b=some c->E3.φ b=some c:=fun b c q=>u3.fz b c (u2.le.fz b c (lJ▸q))
  let E':Env:=⟨E.ι,E.β,E3.φ⟩
  have kR:E.le E':=⟨fun m b s q=>⟨q,rfl⟩,MZ⟩;have afq:Good E' h w':=by
   refine⟨fun m o W=>?_,gb.inj,gb.ny,gb.jy,fun b c q=>⟨r3.good.fz b c q,fun m s W e=>?_⟩⟩
   . obtain⟨b,s,k1,k2⟩:=gb.rel m o W;exact⟨b,s,k1,iF kR rfl rfl k2⟩
   . rcases Rs b c q with z|z
     . exact(g.gX b c z).2 m s W e
     . have:=g.ny m b s e;omega
  refine⟨E',⟨kR,afq,u2.size,u2.tape,u2.os,u2.output,fun b hb _=>Y7 b hb,fun m b s W e _=>⟨m,s,W,e,id⟩,fun b c q=>?_⟩,fun _ _=>rfl,hd,aC _,(Dv (E:=E3) (E':=E') (fun _ _ q=>q) v x hv q2:dJ E' v x)⟩;rcases Rs b c q with z|z
  . exact .inl z
  . exact .inr (.inl z)
 |_=>exact ho.elim
def FP(f:ag->Option (ah×V)):ag->H rs->Nat->Option (ah×V×H rs×Nat):=fun args h n=>match f args with
 |some (cU,v)=>some (cU,v,h,n)
 |none=>none
def Li(P:Program)(f:FuncId)(args:ag)(v:V):Prop:=∀E h n w dm,dK E args dm->Good E h w->rL E n->Calls P f dm.toArray w (kz E h n w (.ret v) h n)
theorem Jj{P:Program}{f:FuncId}{spec:ag->Option (ah×V)}(fH:f<P.funcs.size)(h:∀args cU v,spec args=some (cU,v)->(∀a∈cU,a)->Li P f args v):jK P f (FP spec):=by
 refine⟨fH,fun args h' n cU v h2 n2 e hA E w dm ra g hd J=>?_⟩;unfold FP at e;split at e
 . rename_i A' v' hs;simp only[an,aB]at e;obtain⟨rfl,rfl,rfl,rfl⟩:=e;exact h args _ _ hs hA E h' n w dm ra g hd
 . cases e
theorem iq{P:Program}(W:P.follows .mixedOrders=true)(yd:l6 P=true){f:FuncId}{fn:Func}{code:Code}(hf:P.funcs[f]? =some fn)(hb:fn.body=some code){args:ag}
  (l:(Nat.ble args.length fn.ntmps&&Nat.blt fn.ntmps fW)=true) {v:V} (hdp:V.rC args=true) (hv:v.deep=true) (hT:TG P gN fn.ntmps code (cZ args .nil gN) (fL P gN fn (oe v))):Li P f args v:=by
 intro E h n w dm ra g hd;have g0:Good (VJ E.φ) .nil w:=Rt g.wg g.fz;have ra0:dK (VJ E.φ) args dm:=oM (E:=E) (E':=VJ E.φ) (fun _ _ q=>q) _ _ hdp ra;exact(pF W yd hf hb l _ hT ra0 g0 (YX (aC _))).mono fun e w' ⟨u,h',n',hz,k⟩=>DB (E1:=VJ E.φ) g hd rfl RK hv hz k
def FQ:ag->Option (ai)
 | []=>some []
 |x::xs=>match V.QA x with
  |some d=>match FQ xs with
   |some l=>some (d::l)
   |none=>none
  |none=>none
theorem AQ{E:Env}:∀{xs:ag} {ds:ai},FQ xs=some ds->∀{l:List Value},dK E xs l->dK E (ds.map lf.iZ) l
 | [],ds,h,l,r=>by simp only[FQ,an]at h;subst h;exact r
 |x::xs,ds,h,l,r=>by
  simp only[FQ]at h;split at h
  case h_2=>cases h
  rename_i d hd;split at h
  case h_2=>cases h
  rename_i l' hl;obtain rfl:=eE h;obtain⟨y,ys,r0,O,rfl⟩:=r;exact⟨y,ys,kW _ _ (Gy hd r0).1,AQ hl O,rfl⟩
def dW(f:ai->Option (ah×V)):ag->H rs->Nat->Option (ah×V×H rs×Nat):=fun args h n=>match FQ args with
 |some ds=>match f ds with
  |some (cU,v)=>some (cU,v,h,n)
  |none=>none
 |none=>none
theorem vR{P:Program}{f:FuncId}{spec:ai->Option (ah×V)}(fH:f<P.funcs.size)(h:∀args cU v,spec args=some (cU,v)->(∀a∈cU,a)->Li P f (args.map lf.iZ) v):jK P f (dW spec):=by
 refine⟨fH,fun args h' n cU v h2 n2 e hA E w dm ra g hd J=>?_⟩;unfold dW at e;split at e
 . rename_i ds hds;split at e
   . rename_i A' v' hs;simp only[an,aB]at e;obtain⟨rfl,rfl,rfl,rfl⟩:=e;exact h ds _ _ hs hA E h' n w dm (AQ hds ra) g hd
   . cases e
 . cases e
def Env.pick(E:Env)(ns:List (Option Nat)):Env:=⟨fun j=>match ns.getD j none with
 |some m=>E.ι m
 |none=>none,E.β,E.φ⟩
theorem mP{E:Env}{ns:List (Option Nat)}{j m:Nat}(h:ns.getD j none=some m):(E.pick ns).ι j=E.ι m:=by
 show(match ns.getD j none with|some m=>E.ι m|none=>none)=_;rw[h]
def AR:List (Option Nat)->Nat->Nat->Option Nat
 | [],_,_=>none
 |none::r,j,m=>AR r (j+1) m
 |some k::r,j,m=>match Nat.beq k m with
  |true=>some j
  |false=>AR r (j+1) m
theorem AS:∀(l:List (Option Nat)) (j m k:Nat),AR l j m=some k->j<=k/\l.getD (k-j) none=some m
 | [],_,_,_,h=>by cases h
 |none::r,j,m,k,h=>by
  obtain⟨X,h2⟩:=AS r (j+1) m k h;refine⟨L,?_⟩;rw[show k-j=(k-(j+1))+1 by omega];simpa using h2
 |some x::r,j,m,k,h=>by
  simp only[AR]at h;split at h
  . rename_i hb;obtain rfl:=eE h;refine⟨aC _,?_⟩;simp[aG hb]
  . obtain⟨X,h2⟩:=AS r (j+1) m k h;refine⟨L,?_⟩;rw[show k-j=(k-(j+1))+1 by omega];simpa using h2
abbrev mu(ns:List (Option Nat)):Nat->Option Nat:=AR ns 0
theorem VT{ns:List (Option Nat)}{m k:Nat}(h:mu ns m=some k):ns.getD k none=some m:=by
 have:=(AS ns 0 m k h).2;simpa using this
theorem RZ{E:Env}{ns:List (Option Nat)}:∀m k,mu ns m=some k->(E.pick ns).ι k=E.ι m:=fun _ _ h=>mP (VT h)
def nQ:List (Option Nat)->Bool
 | []=>true
 |none::r=>nQ r
 |some k::r=>!(r.any fun x=>match x with|some j=>Nat.beq k j|none=>false)&&nQ r
theorem pG:∀{l:List (Option Nat)},nQ l=true->∀i j m,l.getD i none=some m->l.getD j none=some m->i=j
 | [],_,i,_,_,h,_=>by simp at h
 |none::r,h,i,j,m,X,h2=>by
  cases i with
  |zero=>simp at X
  |succ i=>cases j with
   |zero=>simp at h2
   |succ j=>rw[pG (l:=r) h i j m (by simpa using X) (by simpa using h2)]
 |some k::r,h,i,j,m,X,h2=>by
  simp only[nQ,aE,Bool.not_eq_true']at h;have no:∀q,r.getD q none≠some k:=by
   intro q hq;have W:some k∈r:=by
    rw[aO]at hq;cases M:r[q]? with
    |none=>rw[M]at hq;cases hq
    |some x=>rw[M]at hq;simp only[Option.getD_some]at hq;subst hq;exact bg M
   have:(r.any fun x=>match x with|some j=>Nat.beq k j|none=>false)=true:=List.any_eq_true.2 ⟨_,W,cP k⟩;rw[this]at h;cases h.1
  cases i with
  |zero=>
   simp at X;subst X;cases j with
   |zero=>rfl
   |succ j=>exact absurd (by simpa using h2) (no j)
  |succ i=>cases j with
   |zero=>simp at h2;subst h2;exact absurd (by simpa using X) (no i)
   |succ j=>rw[pG h.2 i j m (by simpa using X) (by simpa using h2)]
structure vS(ns:List (Option Nat))(h X:H rs):Prop where
 jy:∀p∈kf,ns.getD p.2 none=some p.2
 one:nQ ns=true
 live:∀j m,ns.getD j none=some m->(∃p∈kf,p.2=m)\/h.get m≠none
 get:∀j o1,X.get j=some o1->∃m o,ns.getD j none=some m/\h.get m=some o/\o.rn (mu ns)=some o1
theorem Nk{E:Env}{h X:H rs}{w:World}{ns:List (Option Nat)}(g:Good E h w)(k:vS ns h X):Good (E.pick ns) X w/\rL (E.pick ns) ns.length:=by
 have hw:∀j,eG X j->∃m,ns.getD j none=some m/\eG h m:=by
  rintro j ⟨o1,h2,h3⟩;obtain⟨m,o,q1,q2,q3⟩:=k.get j o1 h2;exact⟨m,q1,o,q2,(Bx q3).symm.trans h3⟩
 refine⟨⟨fun j o1 hj=>?_,fun j j' b s s' fS hj RM e1 e2=>?_,fun j b s e=>?_,fun p hp=>?_,fun b c q=>⟨g.fz b c q,fun j s hj e=>?_⟩⟩,fun j hj=>?_⟩
 . obtain⟨m,o,q1,q2,q3⟩:=k.get j o1 hj;obtain⟨b,s,e1,e2⟩:=g.rel m o q2;exact⟨b,s,(mP q1).trans e1,Cf (E':=E.pick ns) RZ (fun _ _ _ _ _ _=>rfl) (fun _ _ q=>q) rfl o o1 q3 e2⟩
 . obtain⟨m,q1,q2⟩:=hw j hj;obtain⟨o',RM⟩:=bh.1 RM;obtain⟨m',o,p1,p2,_⟩:=k.get j' o' RM;rw[mP q1]at e1;rw[mP p1]at e2;by_cases W:m=m'
   . subst W;exact fS (pG k.one j j' m q1 p1)
   . exact g.inj m m' b s s' W q2 (by rw[p2];simp) e1 e2
 . have e:(match ns.getD j none with|some m=>E.ι m|none=>none)=some (b,s):=e;split at e
   . exact g.ny _ b s e
   . cases e
 . rw[mP (k.jy p hp)];exact g.jy p hp
 . obtain⟨m,q1,q2⟩:=hw j hj;rw[mP q1]at e;exact(g.gX b c q).2 m s q2 e
 . show(match ns.getD j none with|some m=>E.ι m|none=>none)=none;rw[aO,bS (show ns.length<=j from hj)];rfl
def VU(ns:List (Option Nat))(mO:H rs)(I n m:Nat):Option Nat:=match Nat.blt m I with
 |true=>ns.getD m none
 |false=>match mO.get m with
  |some o=>match o.wr with
   |true=>some (n+(m-I))
   |false=>none
  |none=>none
def pW(ν:Nat->Option Nat)(ns:List (Option Nat))(X mO:H rs):Nat->Nat->H rs->Option (H rs)
 |0,_,h=>some h
 |i+1,q,h=>match X.get q with
  |some o0=>match o0.wr with
   |true=>match ns.getD q none with
    |some m=>match Nat.blt m fW with
     |true=>match mO.get q with
      |some o=>match o.wr with
       |true=>match o.rn ν with
        |some o2=>pW ν ns X mO i (q+1) (h.set m (some o2))
        |none=>none
       |false=>none
      |none=>pW ν ns X mO i (q+1) (h.set m none)
     |false=>none
    |none=>none
   |false=>pW ν ns X mO i (q+1) h
  |none=>pW ν ns X mO i (q+1) h
def Lj(ν:Nat->Option Nat)(X:H rs):Nat->Nat->H rs->Option (H rs)
 |0,_,h=>some h
 |i+1,j,h=>match ν j with
  |none=>Lj ν X i (j+1) h
  |some k=>match X.get j with
   |some o=>match o.rn ν with
    |some o2=>match Nat.blt k fW with
     |true=>Lj ν X i (j+1) (h.set k (some o2))
     |false=>none
    |none=>none
   |none=>none
def EU(ns:List (Option Nat))(X:H rs)(r:V×H rs×Nat)(h:H rs)(n:Nat):Option (V×H rs×Nat):=
 match r.1.rn (VU ns r.2.1 ns.length n)with
 |some v=>match pW (VU ns r.2.1 ns.length n) ns X r.2.1 ns.length 0 h with
  |some h2=>match Lj (VU ns r.2.1 ns.length n) r.2.1 (r.2.2-ns.length) ns.length h2 with
   |some h3=>some (v,h3,n+(r.2.2-ns.length))
   |none=>none
  |none=>none
 |none=>none
theorem wW{ν:Nat->Option Nat}{ns:List (Option Nat)}{X mO:H rs}:∀(i q:Nat) (h h2:H rs),pW ν ns X mO i q h=some h2->∀m o,h2.get m=some o->
  (h.get m=some o/\∀p,q<=p->p<q+i->eG X p->ns.getD p none≠some m)\/∃p,q<=p/\p<q+i/\eG X p/\ns.getD p none=some m/\∃o1,mO.get p=some o1/\o1.wr=true/\o1.rn ν=some o
 |0,q,h,h2,e,m,o,W=>by simp only[pW,an]at e;subst e;exact .inl ⟨W,fun p X h2=>by omega⟩
 |i+1,q,h,h2,e,m,o,W=>by
  simp only[pW]at e;have skip:(¬eG X q)->pW ν ns X mO i (q+1) h=some h2->_:=fun hq e=>wW i (q+1) h h2 e m o W;have Fx:∀(h':H rs) (x:Option rs) (m0:Nat),m0<fW->h'=h.set m0 x->eG X q->ns.getD q none=some m0->(∀y,x=some y->∃o1,mO.get q=some o1/\o1.wr=true/\o1.rn ν=some y)->pW ν ns X mO i (q+1) h'=some h2->
    (h.get m=some o/\∀p,q<=p->p<q+(i+1)->eG X p->ns.getD p none≠some m)\/∃p,q<=p/\p<q+(i+1)/\eG X p/\ns.getD p none=some m/\∃o1,mO.get p=some o1/\o1.wr=true/\o1.rn ν=some o:=by
   intro h' x m0 ht hh hw GG M e;rcases wW i (q+1) h' h2 e m o W with⟨k1,k2⟩|⟨p,k1,k2,k3⟩
   . rw[hh,H.eY _ _ _ ht]at k1;split at k1
     . rename_i z;subst z;exact .inr ⟨q,aC _,L,hw,GG,M o k1⟩
     . rename_i z;refine .inl ⟨k1,fun p p1 p2 p3=>?_⟩;rcases Nat.eq_or_lt_of_le p1 with rfl|p1
       . rw[GG];intro c;cases c;exact z rfl
       . exact k2 p p1 L p3
   . exact .inr ⟨p,L,L,k3⟩
  have afr:(¬eG X q)->pW ν ns X mO i (q+1) h=some h2->
    (h.get m=some o/\∀p,q<=p->p<q+(i+1)->eG X p->ns.getD p none≠some m)\/∃p,q<=p/\p<q+(i+1)/\eG X p/\ns.getD p none=some m/\∃o1,mO.get p=some o1/\o1.wr=true/\o1.rn ν=some o:=by
   intro hq e;rcases wW i (q+1) h h2 e m o W with⟨k1,k2⟩|⟨p,k1,k2,k3⟩
   . refine .inl ⟨k1,fun p p1 p2 p3=>?_⟩;rcases Nat.eq_or_lt_of_le p1 with rfl|p1
     . exact absurd p3 hq
     . exact k2 p p1 L p3
   . exact .inr ⟨p,L,L,k3⟩
  split at e
  . rename_i o0 ho0;split at e
    . rename_i R1;split at e
      case h_2=>cases e
      rename_i m0 GG;split at e
      case h_2=>cases e
      rename_i ht;have ht:=ax ht;split at e
      . rename_i o1 ho1;split at e
        case h_2=>cases e
        rename_i Fq;split at e
        case h_2=>cases e
        rename_i o2 GW;exact Fx _ (some o2) m0 ht rfl ⟨o0,ho0,R1⟩ GG (fun y hy=>by cases hy;exact⟨o1,ho1,Fq,GW⟩) e
      . exact Fx _ none m0 ht rfl ⟨o0,ho0,R1⟩ GG (fun y hy=>by cases hy) e
    . rename_i R1;exact afr (fun⟨o,q1,q2⟩=>by rw[ho0]at q1;cases q1;rw[R1]at q2;cases q2) e
  . rename_i ho0;exact afr (fun⟨o,q1,q2⟩=>by rw[ho0]at q1;cases q1) e
theorem AT{ν:Nat->Option Nat}{X:H rs}:∀(i j:Nat) (h h2:H rs),Lj ν X i j h=some h2->∀m o,h2.get m=some o->h.get m=some o\/∃q,j<=q/\q<j+i/\ν q=some m/\∃o1,X.get q=some o1/\o1.rn ν=some o
 |0,j,h,h2,e,m,o,W=>by simp only[Lj,an]at e;subst e;exact .inl W
 |i+1,j,h,h2,e,m,o,W=>by
  simp only[Lj]at e;split at e
  . rcases AT i (j+1) h h2 e m o W with q|⟨q,q1,q2,q3⟩
    . exact .inl q
    . exact .inr ⟨q,L,L,q3⟩
  . rename_i k hk;split at e
    case h_2=>cases e
    rename_i o1 ho;split at e
    case h_2=>cases e
    rename_i o2 GW;split at e
    case h_2=>cases e
    rename_i ht;rcases AT i (j+1) _ h2 e m o W with q|⟨q,q1,q2,q3⟩
    . rw[H.eY _ _ _ (show k<fW from ax ht)]at q;split at q
      . rename_i z;subst z;obtain rfl:=eE q;exact .inr ⟨j,aC _,L,hk,o1,ho,GW⟩
      . exact .inl q
    . exact .inr ⟨q,L,L,q3⟩
theorem Nl{E:Env}{h X:H rs}{n:Nat}{w:World}{ns:List (Option Nat)}{r:V×H rs×Nat}{v:V}{h2:H rs}{n2:Nat}(g:Good E h w)(hd:rL E n)(k0:vS ns h X)
  (he:EU ns X r h n=some (v,h2,n2)) {en:Ending} {w':World} (c:kz (E.pick ns) X ns.length w (.ret r.1) r.2.1 r.2.2 en w'):kz E h n w (.ret v) h2 n2 en w':=by
 obtain⟨v1,mO,Jk⟩:=r;obtain⟨E2,u,fT,sP,hn,ho⟩:=c;simp only at u sP hn ho;unfold EU at he;simp only at he;split at he
 case h_2=>cases he
 rename_i v' hv;split at he
 case h_2=>cases he
 rename_i hL' hhL;split at he
 case h_2=>cases he
 rename_i hH' hhH;simp only[an,aB]at he;obtain⟨rfl,rfl,rfl⟩:=he;generalize Vu:ns.length=I at *
 let ν:=VU ns mO I n
 have aaJ:∀m k,m<I->ν m=some k->ns.getD m none=some k:=by
  intro m k W hk;have hb:Nat.blt m I=true:=Nat.ble_eq_true_of_le W;simp only[ν,VU,hb]at hk;exact hk
 have Hp:∀m k,I<=m->ν m=some k->k=n+(m-I)/\eG mO m:=by
  intro m k W hk;have hb:Nat.blt m I=false:=by
   cases q:Nat.blt m I with
   |false=>rfl
   |true=>exact absurd (ax q) (Nat.not_lt.2 W)
  simp only[ν,VU,hb]at hk;split at hk
  . rename_i o ho1;split at hk
    . rename_i hw;simp only[an]at hk;exact⟨hk.symm,o,ho1,hw⟩
    . cases hk
  . cases hk
 have pre:∀j,eG X j->∃m,ns.getD j none=some m/\eG h m:=by
  rintro j ⟨o1,q2,q3⟩;obtain⟨m,o,p1,p2,p3⟩:=k0.get j o1 q2;exact⟨m,p1,o,p2,(Bx p3).symm.trans q3⟩
 have alE:∀j,X.get j≠none->∃m,ns.getD j none=some m/\h.get m≠none:=by
  intro j hj;obtain⟨o1,q2⟩:=bh.1 hj;obtain⟨m,o,p1,p2,_⟩:=k0.get j o1 q2;exact⟨m,p1,by rw[p2];simp⟩
 have old:∀j b s,mO.get j≠none->E2.ι j=some (b,s)->b<w.heap.size->∃m s0,h.get m≠none/\E.ι m=some (b,s0)/\(∃j0,ns.getD j0 none=some m/\j0<I/\(eG mO j->eG X j0))/\(eG mO j->eG h m):=by
  intro j b s hj e hb;obtain⟨j0,s0,q1,q2,q3⟩:=u.uF j b s hj e hb;obtain⟨m,p1,p2⟩:=alE j0 q1;have hj0:j0<I:=by
   rcases bO j0 I with z|z
   . exact z
   . rw[aO,bS L]at p1;cases p1
  refine⟨m,s0,p2,by rw[<- mP p1];exact q2,⟨j0,p1,hj0,q3⟩,fun z=>?_⟩;obtain⟨m',p3,p4⟩:=pre j0 (q3 z);rw[p1]at p3;cases p3;exact p4
 let E':Env:=⟨fun m=>if m<n then E.ι m else(match ν (I+(m-n))with|some _=>E2.ι (I+(m-n))|none=>none),fun b=>if b<w.heap.size then E.β b else E2.β b,E2.φ⟩
 have xE:∀m,m<n->E'.ι m=E.ι m:=fun m W=>aF W;have afs:∀j k,I<=j->ν j=some k->E'.ι k=E2.ι j:=by
  intro j k hj hk;obtain⟨rfl,_⟩:=Hp j k hj hk;show(if n+(j-I)<n then _ else _)=_;rw[aJ L];have:I+(n+(j-I)-n)=j:=by omega
  rw[this,hk]
 have aft:∀m k,m<I->ns.getD m none=some k->E2.ι m=E.ι k:=fun m k W hk=>(fT m W).trans (mP hk);have hkn:∀k,E.ι k≠none->k<n:=fun k e=>by
  rcases bO k n with q|q
  . exact q
  . exact absurd (hd k q) e
 have jl:∀m k,ν m=some k->E'.ι k=E2.ι m:=by
  intro m k hk;by_cases W:m<I
  . have GG:=aaJ m k W hk;rw[aft m k W GG];by_cases Fv:k<n
    . exact xE k Fv
    . exact absurd (hkn k (by
       rcases k0.live m k GG with⟨p,hp,rfl⟩|q
       . rw[g.jy p hp];simp
       . obtain⟨o,q⟩:=bh.1 q;obtain⟨b,s,e,_⟩:=g.rel k o q;rw[e];simp)) Fv
  . exact afs m k (Nat.le_of_not_lt W) hk
 have kR:E.le E':=by
  refine⟨fun m b s e=>?_,fun b c q=>u.le.fz b c q⟩;exact⟨(xE m (hkn m (by rw[e];simp))).trans e,aF (g.ny m b s e)⟩
 have aaK:rL E' (n+(Jk-I)):=by
  intro m W;have W:n+(Jk-I)<=m:=W;show(if m<n then _ else _)=none;rw[aJ L];split
  . exact sP _ (by show Jk<=_;omega)
  . rfl
 have aaL:∀m k b s,ν m=some k->E2.ι m=some (b,s)->E'.β b=E2.β b:=by
  intro m k b s hk e;show(if b<w.heap.size then E.β b else E2.β b)=_;split
  . rename_i hb;by_cases W:m<I
    . have e1:(E.pick ns).ι m=some (b,s):=by rw[<- fT m W];exact e
      exact(u.le.nm m b s e1).2.symm
    . obtain⟨_,hw⟩:=Hp m k (Nat.le_of_not_lt W) hk;obtain⟨j0,s0,q1,q2,_⟩:=u.uF m b s hw.live e hb;exact(u.le.nm j0 b s0 q2).2.symm
  . rfl
 have q7:∀m o,hH'.get m=some o->(h.get m=some o/\m<n/\∀p,eG X p->ns.getD p none≠some m)\/(∃q,ν q=some m/\eG mO q/\(q<I->eG X q)/\∃o1,mO.get q=some o1/\o1.rn ν=some o):=by
  intro m o W;rcases AT _ _ _ _ hhH m o W with q|⟨q,q1,q2,q3,q4⟩
  . rcases wW _ _ _ _ hhL m o q with⟨k1,k2⟩|⟨p,k1,k2,k3,k4,o1,k5,k6,k7⟩
    . refine .inl ⟨k1,?_,fun p hp GG=>?_⟩
      . obtain⟨b,s,e,_⟩:=g.rel m o k1;exact hkn m (by rw[e];simp)
      . have hp0:p<I:=by
         rcases bO p I with z|z
         . exact z
         . rw[aO,bS L]at GG;cases GG
        exact k2 p (aX _) L hp GG
    . have hp0:p<I:=by omega
      refine .inr ⟨p,?_,⟨o1,k5,k6⟩,fun _=>k3,o1,k5,k7⟩;have hb:Nat.blt p I=true:=Nat.ble_eq_true_of_le hp0;show VU ns mO I n p=some m;simp only[VU,hb];exact k4
  . obtain⟨o1,p1,p2⟩:=q4;exact .inr ⟨q,q3,(Hp q m q1 q3).2,fun z=>absurd z (Nat.not_lt.2 q1),o1,p1,p2⟩
 have keep:∀m o,h.get m=some o->(∀p,eG X p->ns.getD p none≠some m)->∀b s,E.ι m=some (b,s)->w'.heap[b]? =w.heap[b]?:=by
  intro m o W hp b s e;refine u.keep b (g.ny m b s e) fun j t hj e2=>?_;obtain⟨m',p1,p2⟩:=pre j hj;rw[mP p1]at e2;exact g.inj m' m b t s (fun z=>hp j hj (z▸p1)) p2 (by rw[W];simp) e2 e
 have qZ:Good E' hH' w':=by
  refine⟨?_,?_,?_,g.jy.mono kR,fun b c q=>⟨u.good.fz b c q,?_⟩⟩
  . intro m o W;rcases q7 m o W with⟨h0,QO,hp⟩|⟨q,q1,_,_,o1,q3,q4⟩
    . obtain⟨b,s,e1,e2⟩:=g.rel m o h0;exact⟨b,s,(kR.nm m b s e1).1,iF kR (kR.nm m b s e1).2 (keep m o h0 hp b s e1) e2⟩
    . obtain⟨b,s,e1,e2⟩:=u.good.rel q o1 q3;exact⟨b,s,(jl q m q1).trans e1,Cf (E':=E') jl aaL (fun _ _ q=>q) (aaL q m b s q1 e1) o1 o q4 e2⟩
  . rintro m m' b s s' fS ⟨o,W,hw⟩ tN e1 e2;obtain⟨o',tN⟩:=bh.1 tN;rcases q7 m o W with⟨h0,QO,hp⟩|⟨q,q1,q2,q5,o1,q3,q4⟩<;>rcases q7 m' o' tN with⟨h0',afu,Qp⟩|⟨q',q1',q2',q5',o1',q3',q4'⟩
    . rw[xE m QO]at e1;rw[xE m' afu]at e2;exact g.inj m m' b s s' fS ⟨o,h0,hw⟩ (by rw[h0'];simp) e1 e2
    . rw[xE m QO]at e1;rw[jl q' m' q1']at e2;obtain⟨mm,s0,k1,k2,⟨j0,k3,_,k5⟩,k4⟩:=old q' b s' q2'.live e2 (g.ny m b s e1);exact g.inj m mm b s s0 (fun z=>hp j0 (k5 q2') (z▸k3)) ⟨o,h0,hw⟩ k1 e1 k2
    . rw[xE m' afu]at e2;rw[jl q m q1]at e1;obtain⟨mm,s0,k1,k2,⟨j0,k3,_,k5⟩,k4⟩:=old q b s q2.live e1 (g.ny m' b s' e2);exact g.inj mm m' b s0 s' (fun z=>Qp j0 (k5 q2) (z▸k3)) (k4 q2) (by rw[h0'];simp) k2 e2
    . rw[jl q m q1]at e1;rw[jl q' m' q1']at e2;exact u.good.inj q q' b s s' (fun z=>fS (by subst z;rw[q1]at q1';exact cG q1')) q2 q2'.live e1 e2
  . intro m b s e;by_cases W:m<n
    . rw[xE m W]at e;exact bC (g.ny m b s e) u.size
    . have e:(if m<n then E.ι m else(match ν (I+(m-n))with|some _=>E2.ι (I+(m-n))|none=>none))=some (b,s):=e;rw[aJ W]at e;split at e
      . exact u.good.ny _ b s e
      . cases e
  . rintro m s ⟨o,W,hw⟩ e;rcases q7 m o W with⟨h0,QO,hp⟩|⟨q',q1,q2,_⟩
    . rw[xE m QO]at e;rcases u.Eu b c q with z|z|⟨j,t,z1,z2⟩
      . exact(g.gX b c z).2 m s ⟨o,h0,hw⟩ e
      . have:=g.ny m b s e;omega
      . obtain⟨m',p1,p2⟩:=pre j z1;rw[mP p1]at z2;exact g.inj m m' b s t (fun z=>hp j z1 (z▸p1)) ⟨o,h0,hw⟩ p2.live e z2
    . rw[jl q' m q1]at e;exact(u.good.gX b c q).2 q' s q2 e
 refine⟨E',⟨kR,qZ,u.size,u.tape,u.os,u.output,fun b hb rV=>?_,?_,fun b c q=>?_⟩,fun m W=>xE m W,aaK,Nat.le_add_right _ _,?_⟩
 . refine u.keep b hb fun j t hj e=>?_;obtain⟨m',p1,p2⟩:=pre j hj;rw[mP p1]at e;exact rV m' t p2 e
 . intro m b s W e hb;obtain⟨o,W⟩:=bh.1 W;rcases q7 m o W with⟨h0,QO,hp⟩|⟨q,q1,q2,_⟩
   . rw[xE m QO]at e;exact⟨m,s,by rw[h0];simp,e,fun⟨o',k1,k2⟩=>⟨o,h0,by rw[W]at k1;cases k1;exact k2⟩⟩
   . rw[jl q m q1]at e;obtain⟨mm,s0,k1,k2,_,k4⟩:=old q b s q2.live e hb;exact⟨mm,s0,k1,k2,fun _=>k4 q2⟩
 . rcases u.Eu b c q with z|z|⟨j,t,z1,z2⟩
   . exact .inl z
   . exact .inr (.inl z)
   . obtain⟨m',p1,p2⟩:=pre j z1;rw[mP p1]at z2;exact .inr (.inr ⟨m',t,p2,z2⟩)
 . cases en with
   |returned x=>exact tZ (E':=E') jl aaL (fun _ _ q=>q) v1 _ x hv ho
   |_=>exact ho.elim
theorem FR{P:Program}(W:P.follows .mixedOrders=true)(yd:l6 P=true){f:FuncId}{fn:Func}{code:Code}(hf:P.funcs[f]? =some fn)(hb:fn.body=some code){args ot:ag}{ns:List (Option Nat)}{h X h2 mO:H rs}{n n2 Jk:Nat}{v v1:V}
  (l:(Nat.ble ot.length fn.ntmps&&Nat.blt fn.ntmps fW)=true) (k:vS ns h X) (ka:V.Ey (mu ns) args=some ot) (he:EU ns X (v1,mO,Jk) h n=some (v,h2,n2))
  (hT:TG P ns.length fn.ntmps code (cZ ot X ns.length) (fL P ns.length fn fun a b c=>a=v1/\b=mO/\c=Jk))
  {E:Env} {w:World} {dm:List Value} (ra:dK E args dm) (g:Good E h w) (hd:rL E n):Calls P f dm.toArray w (kz E h n w (.ret v) h2 n2):=by
 obtain⟨g1,d1⟩:=Nk g k;have ra1:dK (E.pick ns) ot dm:=uc (E':=E.pick ns) RZ (fun _ _ _ _ _ _=>rfl) (fun _ _ q=>q) _ _ _ ka ra;exact(zF W yd hf hb l v1 mO Jk hT ra1 g1 d1).mono fun en w' c=>Nl g hd k he c
end Go.Eng
