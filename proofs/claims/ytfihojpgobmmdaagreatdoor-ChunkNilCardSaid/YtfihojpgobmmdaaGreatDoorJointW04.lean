/- Lemmas of the engine. No conditions. -/
import Derived.Test.YtfihojpgobmmdaaGreatDoorJointW03
set_option linter.unusedVariables false
set_option linter.unusedSimpArgs false
set_option linter.unusedSectionVars false
namespace Go.Eng
open Go Go.RowKit
mutual
def V.deep:V->Bool
 | .ptr (some _)=>false
 | .dj (some _) _ _ _=>false
 | .map (some _)=>false
 | .fn f a c=>vZ f&&(V.pX a&&V.pX c)
 | .iface _ x=>V.deep x
 | .agg C=>V.pX C
 | .ew C=>V.pX C
 |_=>true
def V.pX:ag->Bool
 | []=>true
 |x::xs=>V.deep x&&V.pX xs
end
mutual
theorem De{E E':Env}(kR:∀b c,E.φ b=some c->E'.φ b=some c):∀(v:V) (v':Value),v.deep=true->dK E v v'->dK E' v v'
 | .bool _,_,_,r=>r
 | .int _ _,_,_,r=>r
 | .str _,_,_,r=>r
 | .ptr none,_,_,r=>r
 | .ptr (some _),_,h,_=>by simp[V.deep]at h
 | .dj none _ _ _,_,_,r=>r
 | .dj (some _) _ _ _,_,h,_=>by simp[V.deep]at h
 | .map none,_,_,r=>r
 | .map (some _),_,h,_=>by simp[V.deep]at h
 | .fn f a c,_,h,⟨f',a',c',rf,ra,rc,q⟩=>by
   simp only[V.deep,aC]at h;refine⟨f',a',c',?_,lY kR a a' h.2.1 ra,lY kR c c' h.2.2 rc,q⟩;cases f<;>first|exact rf|(simp[vZ]at h;done)
 | .kB,_,_,r=>r
 | .iface _ x,_,h,⟨x',r,q⟩=>⟨x',De kR x x' (by simpa only[V.deep]using h) r,q⟩
 | .nilIface,_,_,r=>r
 | .agg C,_,h,⟨cs',r,q⟩=>⟨cs',lY kR C cs' (by simpa only[V.deep]using h) r,q⟩
 | .ew C,_,h,⟨cs',r,q⟩=>⟨cs',lY kR C cs' (by simpa only[V.deep]using h) r,q⟩
 | .dS _ _ _,_,_,r=>⟨kO kR _ _ r.1,r.2⟩
 | .dx C,_,_,⟨b,o,c,vs,e,e1,r,q⟩=>⟨b,o,c,vs,e,kR _ _ e1,iD kR C vs r,q⟩
theorem lY{E E':Env}(kR:∀b c,E.φ b=some c->E'.φ b=some c):∀(v:ag) (v':List Value),V.pX v=true->dL E v v'->dL E' v v'
 | [],_,_,r=>r
 |x::xs,_,h,⟨y,ys,r,D,q⟩=>by
  simp only[V.pX,aC]at h;exact⟨y,ys,De kR x y h.1 r,lY kR xs ys h.2 D,q⟩
end
section
variable(rt:Nat->Option (ai))
mutual
def Bo:V->Option (ah×V)
 | .dj (some (m,o)) T A jC=>match rt m with
   |some C=>match o with
    |0=>some ([C.length=T*jC],.dS false T C)
    |o+1=>some ([],.dS false T ((C.drop (o+1)).take (T*jC)))
   |none=>some ([],.dj (some (m,o)) T A jC)
 | .ptr (some (m,o))=>match rt m with
   |some _=>none
   |none=>some ([],.ptr (some (m,o)))
 | .map (some m)=>match rt m with
   |some _=>none
   |none=>some ([],.map (some m))
 | .fn f a c=>match f with
   | .yield m=>match rt m with
     |some _=>none
     |none=>match vD a with
      |some (cS,a)=>match vD c with
       |some (h2,c)=>some (cS++h2,.fn (.yield m) a c)
       |none=>none
      |none=>none
   |f=>match vD a with
    |some (cS,a)=>match vD c with
     |some (h2,c)=>some (cS++h2,.fn f a c)
     |none=>none
    |none=>none
 | .iface t x=>match Bo x with
   |some (cS,x)=>some (cS,.iface t x)
   |none=>none
 | .agg C=>match vD C with
   |some (cS,C)=>some (cS,.agg C)
   |none=>none
 | .ew C=>match vD C with
   |some (cS,C)=>some (cS,.ew C)
   |none=>none
 | .bool b=>some ([],.bool b)
 | .int k n=>some ([],.int k n)
 | .str s=>some ([],.str s)
 | .ptr none=>some ([],.ptr none)
 | .dj none l c e=>some ([],.dj none l c e)
 | .map none=>some ([],.map none)
 | .kB=>some ([],.kB)
 | .nilIface=>some ([],.nilIface)
 | .dS f n C=>some ([],.dS f n C)
 | .dx C=>some ([],.dx C)
def vD:ag->Option (ah×ag)
 | []=>some ([],[])
 |x::xs=>match Bo x with
  |some (cS,x)=>match vD xs with
   |some (h2,xs)=>some (cS++h2,x::xs)
   |none=>none
  |none=>none
end
end
def ZY(rt:Nat->Option (ai))(E:Env)(φ:Nat->Option (Array Value)):Prop:=
 ∀m C,rt m=some C->∀b s,E.ι m=some (b,s)->∃c vs,φ b=some c/\iw φ C vs/\∀(j:Nat) (x:Value),vs[j]? =some x->c[s+j]? =some x
section
variable{rt:Nat->Option (ai)}{E E':Env}(hF:ZY rt E E'.φ)(jj:∀m,E'.ι m=E.ι m)(pG:E'.β=E.β)(kR:∀b c,E.φ b=some c->E'.φ b=some c)
include hF jj pG kR
mutual
theorem tU:∀(v v2:V) (cS:ah) (v':Value),Bo rt v=some (cS,v2)->(∀a∈cS,a)->dK E v v'->dK E' v2 v'
 | .bool _,v2,cS,_,h,_,r=>by simp only[Bo,an,aB]at h;obtain⟨rfl,rfl⟩:=h;exact r
 | .int _ _,v2,cS,_,h,_,r=>by simp only[Bo,an,aB]at h;obtain⟨rfl,rfl⟩:=h;exact r
 | .str _,v2,cS,_,h,_,r=>by simp only[Bo,an,aB]at h;obtain⟨rfl,rfl⟩:=h;exact r
 | .ptr none,v2,cS,_,h,_,r=>by simp only[Bo,an,aB]at h;obtain⟨rfl,rfl⟩:=h;exact r
 | .dj none _ _ _,v2,cS,_,h,_,r=>by simp only[Bo,an,aB]at h;obtain⟨rfl,rfl⟩:=h;exact r
 | .map none,v2,cS,_,h,_,r=>by simp only[Bo,an,aB]at h;obtain⟨rfl,rfl⟩:=h;exact r
 | .kB,v2,cS,_,h,_,r=>by simp only[Bo,an,aB]at h;obtain⟨rfl,rfl⟩:=h;exact r
 | .nilIface,v2,cS,_,h,_,r=>by simp only[Bo,an,aB]at h;obtain⟨rfl,rfl⟩:=h;exact r
 | .dS f n C,v2,cS,_,h,_,r=>by
   simp only[Bo,an,aB]at h;obtain⟨rfl,rfl⟩:=h;exact⟨kO kR _ _ r.1,r.2⟩
 | .dx C,v2,cS,_,h,_,⟨b,o,c,vs,e,e1,r,q⟩=>by
   simp only[Bo,an,aB]at h;obtain⟨rfl,rfl⟩:=h;exact⟨b,o,c,vs,e,kR _ _ e1,iD kR C vs r,q⟩
 | .ptr (some (m,o)),v2,cS,_,h,_,⟨b,s,e,q⟩=>by
   simp only[Bo]at h;split at h
   . cases h
   . obtain⟨rfl,rfl⟩:=fg h;exact⟨b,s,(jj m).trans e,q⟩
 | .map (some m),v2,cS,_,h,_,⟨b,e,q⟩=>by
   simp only[Bo]at h;split at h
   . cases h
   . obtain⟨rfl,rfl⟩:=fg h;exact⟨b,(jj m).trans e,q⟩
 | .dj (some (m,o)) T A jC,v2,cS,_,h,hA,⟨b,s,o',gp,e,q1,q2,q3,q4,q5⟩=>by
   simp only[Bo]at h;split at h
   . rename_i C nX;obtain⟨c,vs,k1,k2,k3⟩:=hF m C nX b s e;have key:∀(ds:ai) (us:List Value),iw E'.φ ds us->(T=0->ds=[])->(0<T->∀(j:Nat) (x:Value),us[j]? =some x->c[s+o+j]? =some x)->dK E' (.dS false T ds) (.slice (some ⟨b,o',none⟩) T gp):=by
      intro ds us N B h3;refine⟨⟨_,gp,us,rfl,K,N,B,fun hp=>⟨b,o',c,rfl,k1,?_⟩⟩,fun q=>by cases q⟩;rw[q1 K];exact h3 hp
     split at h
     . obtain⟨rfl,rfl⟩:=fg h;rw[q5];have hl:C.length=T*jC:=hA _ (aq.2 rfl);refine key C vs k2 (fun z=>?_) (fun _ j x G=>by rw[Nat.add_zero];exact k3 j x G);rw[z,Nat.zero_mul]at hl;exact cJ.1 hl
     . rename_i o;obtain⟨rfl,rfl⟩:=fg h;rw[q5];refine key _ _ (tn (oh k2)) (fun z=>by rw[z];simp) (fun _ j x G=>?_);rw[bP]at G;split at G
       . rw[bJ]at G;rw[<- k3 _ x G,cD]
       . cases G
   . obtain⟨rfl,rfl⟩:=fg h;exact⟨b,s,o',gp,(jj m).trans e,q1,q2,q3,by rw[pG];exact q4,q5⟩
 | .fn f a c,v2,cS,_,h,hA,⟨f',a',c',rf,ra,rc,q⟩=>by
   simp only[Bo]at h;split at h
   . rename_i m;split at h
     . cases h
     . split at h
       case h_2=>cases h
       rename_i A1 a2 ha;split at h
       case h_2=>cases h
       rename_i B1 c2 I;obtain⟨rfl,rfl⟩:=fg h;obtain⟨l,s,e,q2⟩:=rf;exact⟨f',a',c',⟨l,s,(jj m).trans e,q2⟩,lN a a2 A1 a' ha (fun x G=>hA x (aW.2 (.inl G))) ra,lN c c2 B1 c' I (fun x G=>hA x (aW.2 (.inr G))) rc,q⟩
   . rename_i fU;split at h
     case h_2=>cases h
     rename_i A1 a2 ha;split at h
     case h_2=>cases h
     rename_i B1 c2 I;obtain⟨rfl,rfl⟩:=fg h;refine⟨f',a',c',?_,lN a a2 A1 a' ha (fun x G=>hA x (aW.2 (.inl G))) ra,lN c c2 B1 c' I (fun x G=>hA x (aW.2 (.inr G))) rc,q⟩;cases f<;>first|exact rf|exact(fU _ rfl).elim
 | .iface t x,v2,cS,_,h,hA,⟨x',r,q⟩=>by
   simp only[Bo]at h;split at h
   . rename_i A1 x2 G;obtain⟨rfl,rfl⟩:=fg h;exact⟨x',tU x x2 _ x' G hA r,q⟩
   . cases h
 | .agg C,v2,cS,_,h,hA,⟨cs',r,q⟩=>by
   simp only[Bo]at h;split at h
   . rename_i A1 x2 G;obtain⟨rfl,rfl⟩:=fg h;exact⟨cs',lN C x2 _ cs' G hA r,q⟩
   . cases h
 | .ew C,v2,cS,_,h,hA,⟨cs',r,q⟩=>by
   simp only[Bo]at h;split at h
   . rename_i A1 x2 G;obtain⟨rfl,rfl⟩:=fg h;exact⟨cs',lN C x2 _ cs' G hA r,q⟩
   . cases h
theorem lN:∀(v v2:ag) (cS:ah) (v':List Value),vD rt v=some (cS,v2)->(∀a∈cS,a)->dL E v v'->dL E' v2 v'
 | [],v2,cS,_,h,_,r=>by simp only[vD,an,aB]at h;obtain⟨rfl,rfl⟩:=h;exact r
 |x::xs,v2,cS,_,h,hA,⟨y,ys,r,D,q⟩=>by
  simp only[vD]at h;split at h
  case h_2=>cases h
  rename_i A1 x2 G;split at h
  case h_2=>cases h
  rename_i B1 KI BD;obtain⟨rfl,rfl⟩:=fg h;exact⟨y,ys,tU x x2 A1 y G (fun a ha=>hA a (aW.2 (.inl ha))) r,lN xs KI B1 ys BD (fun a ha=>hA a (aW.2 (.inr ha))) D,q⟩
end
end
def rq:lf->Option (ai)
 | .deep C=>some C
 | .own k ks=>some (ks.map (.int k))
 | .cells C=>iC C
 |_=>none
section
variable(rt:Nat->Option (ai))
def Df:H V->Option (ah×H V)
 | .nil=>some ([],.nil)
 | .node v l r=>match(match v with
    |none=>some ([],none)
    |some v=>match Bo rt v with
     |some (cS,v)=>some (cS,some v)
     |none=>none:Option (ah×Option V))with
   |some (cS,v)=>match Df l with
    |some (h2,l)=>match Df r with
     |some (cs,r)=>some (cS++(h2++cs),.node v l r)
     |none=>none
    |none=>none
   |none=>none
def Q7:List (V×V×Nat)->Option (ah×List (V×V×Nat))
 | []=>some ([],[])
 |x::xs=>match Bo rt x.1 with
  |some (cS,k)=>match Bo rt x.2.1 with
   |some (h2,v)=>match Q7 xs with
    |some (cs,xs)=>some (cS++(h2++cs),(k,v,x.2.2)::xs)
    |none=>none
   |none=>none
  |none=>none
def IS:lf->Option (ah×lf)
 | .cells C=>match vD rt C with
   |some (cS,C)=>some (cS,.cells C)
   |none=>none
 | .map Q c=>match Q7 rt Q with
   |some (cS,Q)=>some (cS,.map Q c)
   |none=>none
 | .nU s p=>some ([],.nU s p)
 | .ints k ks=>some ([],.ints k ks)
 | .own k ks=>some ([],.own k ks)
 | .deep C=>some ([],.deep C)
 | .jf e f s=>some ([],.jf e f s)
 | .AX t s x=>match Bo rt x with
   |some (cS,x)=>some (cS,.AX t s x)
   |none=>none
 | .dI k Q=>some ([],.dI k Q)
 | .mF=>some ([],.mF)
 | .loop st pe S ps a b=>match Df rt S with
   |some (cS,S)=>some (cS,.loop st pe S ps a b)
   |none=>none
def Fj:H lf->Option (ah×H lf)
 | .nil=>some ([],.nil)
 | .node v l r=>match(match v with
    |none=>some ([],none)
    |some v=>match IS rt v with
     |some (cS,v)=>some (cS,some v)
     |none=>none:Option (ah×Option lf))with
   |some (cS,v)=>match Fj l with
    |some (h2,l)=>match Fj r with
     |some (cs,r)=>some (cS++(h2++cs),.node v l r)
     |none=>none
    |none=>none
   |none=>none
def Q8:List (FuncId×ag×ag)->Option (ah×List (FuncId×ag×ag))
 | []=>some ([],[])
 |x::xs=>match vD rt x.2.1 with
  |some (cS,c)=>match vD rt x.2.2 with
   |some (h2,a)=>match Q8 xs with
    |some (cs,xs)=>some (cS++(h2++cs),(x.1,c,a)::xs)
    |none=>none
   |none=>none
  |none=>none
end
def ZZ(h:H lf)(ms:List Nat)(m:Nat):Option (ai):=match ms.any (Nat.beq m)with
 |true=>match h.get m with
  |some o=>rq o
  |none=>none
 |false=>none
def MJ(h:H lf):List Nat->Bool
 | []=>true
 |m::ms=>Nat.blt m fP&&((match h.get m with|some o=>(match rq o with|some _=>true|none=>false)|none=>false)&&MJ h ms)
def zl:List Nat->H lf->H lf
 | [],h=>h
 |m::ms,h=>zl ms (h.set m none)
def Yy(ms:List Nat)(s:St):Option (ah×St):=match MJ s.h ms with
 |true=>match Df (ZZ s.h ms) s.S with
  |some (cS,S)=>match Fj (ZZ s.h ms) s.h with
   |some (h2,h)=>match Q8 (ZZ s.h ms) s.gG with
    |some (cs,d)=>some (cS++(h2++cs),{ S:=S,h:=zl ms h,n:=s.n,gG:=d })
    |none=>none
   |none=>none
  |none=>none
 |false=>none
theorem wG{rt:Nat->Option (ai)}:∀(t t2:H V) (cS:ah),Df rt t=some (cS,t2)->∀k v2,t2.get k=some v2->∃v h2,t.get k=some v/\Bo rt v=some (h2,v2)/\∀b∈h2,b∈cS
 | .nil,t2,cS,h,k,v2,hk=>by simp only[Df,an,aB]at h;obtain⟨_,rfl⟩:=h;simp[H.get]at hk
 | .node v l r,t2,cS,h,k,v2,hk=>by
   simp only[Df]at h;split at h
   case h_2=>cases h
   rename_i A1 v1 N;split at h
   case h_2=>cases h
   rename_i B1 l1 hl;split at h
   case h_2=>cases h
   rename_i C1 r1 hr;obtain⟨rfl,rfl⟩:=fg h;simp only[H.get]at hk ⊢;split at hk
   . subst hk;cases v with
     |none=>simp at N
     |some v=>
      simp only at N;split at N
      . rename_i A0 v0 h0;simp only[aB,an]at N;obtain⟨rfl,rfl⟩:=N;exact⟨v,A0,rfl,h0,fun b hb=>aW.2 (.inl hb)⟩
      . cases N
   . rename_i k;split at hk
     . rename_i akQ;obtain⟨v,h2,q1,q2,q3⟩:=wG l l1 B1 hl _ v2 hk;exact⟨v,h2,q1,q2,fun b hb=>aW.2 (.inr (aW.2 (.inl (q3 b hb))))⟩
     . rename_i akQ;obtain⟨v,h2,q1,q2,q3⟩:=wG r r1 C1 hr _ v2 hk;exact⟨v,h2,q1,q2,fun b hb=>aW.2 (.inr (aW.2 (.inr (q3 b hb))))⟩
theorem Ax{rt:Nat->Option (ai)}:∀(t t2:H lf) (cS:ah),Fj rt t=some (cS,t2)->∀k v2,t2.get k=some v2->∃v h2,t.get k=some v/\IS rt v=some (h2,v2)/\∀b∈h2,b∈cS
 | .nil,t2,cS,h,k,v2,hk=>by simp only[Fj,an,aB]at h;obtain⟨_,rfl⟩:=h;simp[H.get]at hk
 | .node v l r,t2,cS,h,k,v2,hk=>by
   simp only[Fj]at h;split at h
   case h_2=>cases h
   rename_i A1 v1 N;split at h
   case h_2=>cases h
   rename_i B1 l1 hl;split at h
   case h_2=>cases h
   rename_i C1 r1 hr;obtain⟨rfl,rfl⟩:=fg h;simp only[H.get]at hk ⊢;split at hk
   . subst hk;cases v with
     |none=>simp at N
     |some v=>
      simp only at N;split at N
      . rename_i A0 v0 h0;simp only[aB,an]at N;obtain⟨rfl,rfl⟩:=N;exact⟨v,A0,rfl,h0,fun b hb=>aW.2 (.inl hb)⟩
      . cases N
   . rename_i k;split at hk
     . obtain⟨v,h2,q1,q2,q3⟩:=Ax l l1 B1 hl _ v2 hk;exact⟨v,h2,q1,q2,fun b hb=>aW.2 (.inr (aW.2 (.inl (q3 b hb))))⟩
     . obtain⟨v,h2,q1,q2,q3⟩:=Ax r r1 C1 hr _ v2 hk;exact⟨v,h2,q1,q2,fun b hb=>aW.2 (.inr (aW.2 (.inr (q3 b hb))))⟩
section
variable{rt:Nat->Option (ai)}{E E':Env}(hF:ZY rt E E'.φ)(jj:∀m,E'.ι m=E.ι m)(pG:E'.β=E.β)(kR:∀b c,E.φ b=some c->E'.φ b=some c)
include hF jj pG kR
theorem IT:∀(Q uv:List (V×V×Nat)) (cS:ah) (l:List MapEntry),Q7 rt Q=some (cS,uv)->(∀a∈cS,a)->kK E Q l->kK E' uv l
 | [],uv,cS,_,h,_,r=>by simp only[Q7,an,aB]at h;obtain⟨rfl,rfl⟩:=h;exact r
 |x::xs,uv,cS,_,h,hA,⟨y,ys,r1,r2,r3,D,q⟩=>by
  simp only[Q7]at h;split at h
  case h_2=>cases h
  rename_i A1 k hk;split at h
  case h_2=>cases h
  rename_i B1 v hv;split at h
  case h_2=>cases h
  rename_i C1 KI BD;obtain⟨rfl,rfl⟩:=fg h;exact⟨y,ys,tU hF jj pG kR _ _ _ _ hk (fun a ha=>hA a (by simp[ha])) r1,tU hF jj pG kR _ _ _ _ hv (fun a ha=>hA a (by simp[ha])) r2,r3,IT xs KI C1 ys BD (fun a ha=>hA a (by simp[ha])) D,q⟩
theorem U6{w:World}{b s:Nat}:∀(o o2:lf) (cS:ah),IS rt o=some (cS,o2)->(∀a∈cS,a)->l7 E w b s o->l7 E' w b s o2
 | .cells C,o2,cS,h,hA,⟨c,el,fz,N,B,h3,h4⟩=>by
   simp only[IS]at h;split at h
   case h_2=>cases h
   rename_i A1 vw nX;obtain⟨rfl,rfl⟩:=fg h;obtain⟨vs,k1,k2⟩:=sk.1 h4;exact⟨c,el,fz,N,by rw[pG];exact B,h3,sk.2 ⟨vs,lN hF jj pG kR _ _ _ _ nX hA k1,k2⟩⟩
 | .map Q cl,o2,cS,h,hA,⟨hs,gj,N,B⟩=>by
   simp only[IS]at h;split at h
   case h_2=>cases h
   rename_i A1 uv Uc;obtain⟨rfl,rfl⟩:=fg h;exact⟨hs,gj,N,IT hF jj pG kR _ _ _ _ Uc hA B⟩
 | .nU st p,o2,cS,h,_,r=>by simp only[IS,an,aB]at h;obtain⟨rfl,rfl⟩:=h;exact r
 | .ints k ks,o2,cS,h,_,⟨c,el,fz,N,B,h3⟩=>by simp only[IS,an,aB]at h;obtain⟨rfl,rfl⟩:=h;exact⟨c,el,fz,N,by rw[pG];exact B,h3⟩
 | .own k ks,o2,cS,h,_,⟨c,el,fz,N,B,h3,h4⟩=>by simp only[IS,an,aB]at h;obtain⟨rfl,rfl⟩:=h;exact⟨c,el,fz,N,by rw[pG];exact B,h3,xh h4⟩
 | .deep C,o2,cS,h,_,⟨c,el,fz,vs,N,B,h3,h4,h5⟩=>by simp only[IS,an,aB]at h;obtain⟨rfl,rfl⟩:=h;exact⟨c,el,fz,vs,N,by rw[pG];exact B,h3,iD kR _ _ h4,h5⟩
 | .jf el AW t,o2,cS,h,_,⟨c,fz,xs,N,h0,B,h3⟩=>by simp only[IS,an,aB]at h;obtain⟨rfl,rfl⟩:=h;exact⟨c,fz,xs,N,h0,by rw[pG];exact B,h3⟩
 | .AX t self x,o2,cS,h,hA,⟨hs,x',fz,N,B,h3,h4⟩=>by
   simp only[IS]at h;split at h
   case h_2=>cases h
   rename_i A1 x2 G;obtain⟨rfl,rfl⟩:=fg h;exact⟨hs,x',fz,N,by rw[pG];exact B,h3,tU hF jj pG kR _ _ _ _ G hA h4⟩
 | .dI kk Q,o2,cS,h,_,⟨hs,gj,cl,N,B⟩=>by simp only[IS,an,aB]at h;obtain⟨rfl,rfl⟩:=h;exact⟨hs,gj,cl,N,B.mono kR⟩
 | .mF,o2,cS,h,_,r=>by simp only[IS,an,aB]at h;obtain⟨rfl,rfl⟩:=h;exact r
 | .loop st pe S ps a b',o2,cS,h,hA,⟨r,N,B,h3,h4,h5,h6,h7,h8⟩=>by
   simp only[IS]at h;split at h
   case h_2=>cases h
   rename_i A1 xU yp;obtain⟨rfl,rfl⟩:=fg h;refine⟨r,N,B,h3,h4,h5,h6,fun t v e=>?_,h8⟩;obtain⟨v0,h2,q1,q2,q3⟩:=wG _ _ _ yp t v e;obtain⟨v',k1,k2⟩:=h7 t v0 q1;exact⟨v',k1,tU hF jj pG kR _ _ _ _ q2 (fun x G=>hA x (q3 x G)) k2⟩
theorem IU:∀(xs KI:List (FuncId×ag×ag)) (cS:ah) (ys:List Deferred),Q8 rt xs=some (cS,KI)->(∀a∈cS,a)->xm E xs ys->xm E' KI ys
 | [],KI,cS,_,h,_,r=>by simp only[Q8,an,aB]at h;obtain⟨rfl,rfl⟩:=h;exact r
 |x::xs,KI,cS,_,h,hA,⟨d,ys,r1,D,q⟩=>by
  simp only[Q8]at h;split at h
  case h_2=>cases h
  rename_i A1 c I;split at h
  case h_2=>cases h
  rename_i B1 a ha;split at h
  case h_2=>cases h
  rename_i C1 xs3 BD;obtain⟨rfl,rfl⟩:=fg h;refine⟨d,ys,?_,IU xs xs3 C1 ys BD (fun a ha=>hA a (by simp[ha])) D,q⟩;rcases r1 with⟨G,c',a',q1,q2,q3⟩|⟨G,m,b,s,q1,q2,q3⟩
  . exact .inl ⟨G,c',a',lN hF jj pG kR _ _ _ _ I (fun a ha=>hA a (by simp[ha])) q1,lN hF jj pG kR _ _ _ _ ha (fun a ha=>hA a (by simp[ha])) q2,q3⟩
  . refine .inr ⟨G,m,b,s,?_,(jj m).trans q2,q3⟩;have q1:x.2.2=[V.map (some m)]:=q1;rw[q1]at ha;simp only[vD,Bo]at ha;cases W:rt m with
    |some _=>rw[W]at ha;cases ha
    |none=>rw[W]at ha;simp only[an,aB]at ha;exact ha.2.symm
end
theorem Z0{rt:Nat->Option (ai)}{o o2:lf}{cS:ah}(h:IS rt o=some (cS,o2)):o2.wr=o.wr:=by
 cases o<;>simp only[IS]at h<;>(try split at h)<;>first|(simp only[an,aB]at h;obtain⟨_,rfl⟩:=h;rfl)|cases h
theorem Fk:∀(ms:List Nat) (h:H lf) (k:Nat),(∀m∈ms,m<fP)->(zl ms h).get k=if k∈ms then none else h.get k
 | [],h,k,_=>by simp[zl]
 |m::ms,h,k,ht=>by
  rw[zl,Fk ms _ k fun m W=>ht m (by simp[W]),H.eY _ _ _ (ht m (by simp))];by_cases N:k∈ms
  . simp[N]
  . by_cases B:k=m
    . simp[B]
    . simp[N,B]
theorem Dg{h:H lf}:∀{ms:List Nat},MJ h ms=true->∀m∈ms,m<fP/\∃o C,h.get m=some o/\rq o=some C
 | [],_,m,W=>by simp at W
 |x::ms,h,m,W=>by
  simp only[MJ,aC]at h;rcases aF.1 W with rfl|W
  . refine⟨au h.1,?_⟩;have:=h.2.1;split at this
    . rename_i o ho;split at this
      . rename_i C I;exact⟨o,C,ho,I⟩
      . cases this
    . cases this
  . exact Dg h.2.2 m W
theorem Q9{h:H lf}{ms:List Nat}{m:Nat}{C:ai}(e:ZZ h ms m=some C):m∈ms/\∃o,h.get m=some o/\rq o=some C:=by
 unfold ZZ at e;split at e
 . rename_i ha;split at e
   . rename_i o ho;obtain⟨x,G,q⟩:=List.any_eq_true.1 ha;have:=aD q;subst this;exact⟨G,o,ho,e⟩
   . cases e
 . cases e
theorem B0{o:lf}{C:ai}(h:rq o=some C):o.wr=true:=by cases o<;>simp[rq]at h<;>rfl
theorem IV{E:Env}{w:World}{b s:Nat}{o:lf}{C:ai}(h:rq o=some C)(r:l7 E w b s o):∃c el fz vs,w.heap[b]? =some (.cells c el fz)/\iw E.φ C vs/\∀(j:Nat) (x:Value),vs[j]? =some x->c[s+j]? =some x:=by
 cases o<;>simp only[rq,an,reduceCtorEq]at h
 . obtain⟨c,el,fz,N,_,_,h4⟩:=r;obtain⟨vs,k1,k2⟩:=sk.1 h4;exact⟨c,el,fz,vs,N,tq h k1,k2⟩
 . rename_i k ks;subst h;obtain⟨c,el,fz,N,_,_,h4⟩:=r;have e:rs.l6 (ks.map (.int k))=ks.map (.int k):=by rw[rs.gB,List.map_map];rfl
   obtain⟨vs,k1,k2⟩:=(oo (fun x G=>by obtain⟨_,_,rfl⟩:=bA.1 G;rfl)).1 (by rw[e];exact h4:mz E s (rs.l6 (ks.map (.int k))) c);exact⟨c,el,fz,vs,N,k1,k2⟩
 . subst h;obtain⟨c,el,fz,vs,N,_,_,h4,h5⟩:=r;exact⟨c,el,fz,vs,N,h4,h5⟩
open Classical in
noncomputable def w6(E:Env)(rt:Nat->Option (ai))(w:World)(b:Nat):Option (Array Value):=if ∃m s,(rt m).isSome=true/\E.ι m=some (b,s)then(match w.heap[b]? with|some (.cells c _ _)=>some c|_=>none)else E.φ b
theorem wH{M h1:Nat}{ms:List Nat}{s s2:St}{cS:ah}{E:Env}{a:Act}{w:World}(e:Yy ms s=some (cS,s2))(hA:∀x∈cS,x)(r:kf E h1 s a w)(hn:M<=s.n):
  ∃E2,kf E2 h1 s2 a w/\lM M E s.h w E2 s2.h w/\M<=s2.n/\(∀m,E2.ι m=E.ι m):=by
 unfold Yy at e;split at e
 case h_2=>cases e
 rename_i U7;split at e
 case h_2=>cases e
 rename_i A1 xU yp;split at e
 case h_2=>cases e
 rename_i B1 B hh;split at e
 case h_2=>cases e
 rename_i C1 d2 Gt;simp only[an,aB]at e;obtain⟨rfl,rfl⟩:=e;have U7:=Dg U7;generalize hFd:ZZ s.h ms=rt at *;have g:=r.good;have Z1:∀m C,rt m=some C->m∈ms/\∃o,s.h.get m=some o/\rq o=some C:=fun m C q=>Q9 (h:=s.h) (ms:=ms) (by rw[hFd];exact q);have hmF:∀m,m∈ms->(rt m).isSome=true:=by
  intro m W;obtain⟨_,o,C,N,h3⟩:=U7 m W;rw[<- hFd];unfold ZZ;rw[show ms.any (Nat.beq m)=true from List.any_eq_true.2 ⟨m,W,cO m⟩,N];simp only[h3];rfl
 have nB:∀b c,E.φ b=some c->w6 E rt w b=some c:=by
  intro b c q;unfold w6;rw[aI];. exact q
  rintro⟨m,s',N,h3⟩;obtain⟨C,nX⟩:=bW.1 N;obtain⟨_,o,k1,k2⟩:=Z1 m C nX;exact(g.gQ b c q).2 m s' ⟨o,k1,B0 k2⟩ h3
 let E2:Env:=⟨E.ι,E.β,w6 E rt w⟩
 have hFz:ZY rt E E2.φ:=by
  intro m C nX b s' hb;obtain⟨_,o,k1,k2⟩:=Z1 m C nX;obtain⟨b',t,q1,q2⟩:=g.rel m o k1;rw[hb]at q1;cases q1;obtain⟨c,el,fz,vs,p1,p2,p3⟩:=IV k2 q2;refine⟨c,vs,?_,iD nB _ _ p2,p3⟩;show w6 E rt w b=some c;unfold w6;rw[aH ⟨m,s',by rw[nX];rfl,hb⟩,p1]
 have hA1:∀x∈A1,x:=fun x G=>hA x (by simp[G]);have hB1:∀x∈B1,x:=fun x G=>hA x (by simp[G]);have hC1:∀x∈C1,x:=fun x G=>hA x (by simp[G]);have kL:∀k o2,(zl ms B).get k=some o2->k∉ms/\∃o h2,s.h.get k=some o/\IS rt o=some (h2,o2)/\∀b∈h2,b:=by
  intro k o2 q;rw[Fk ms B k fun m W=>(U7 m W).1]at q;split at q
  . cases q
  . rename_i hk;obtain⟨o,h2,q1,q2,q3⟩:=Ax _ _ _ hh k o2 q;exact⟨hk,o,h2,q1,q2,fun b hb=>hB1 b (q3 b hb)⟩
 have uz:∀k,eE (zl ms B) k->k∉ms/\eE s.h k:=by
  rintro k ⟨o2,q1,q2⟩;obtain⟨hk,o,h2,p1,p2,_⟩:=kL k o2 q1;exact⟨hk,o,p1,(Z0 p2).symm.trans q2⟩
 have F9:∀k,(zl ms B).get k≠none->s.h.get k≠none:=by
  intro k q;obtain⟨o2,q⟩:=bh.1 q;obtain⟨_,o,_,p1,_⟩:=kL k o2 q;rw[p1];simp
 have qN:Good E2 (zl ms B) w:=by
  refine⟨fun m o2 W=>?_,fun m m' b t t' fU W tr e1 e2=>g.inj m m' b t t' fU (uz m W).2 (F9 m' tr) e1 e2,g.mK,g.jh,fun b c q=>?_⟩
  . obtain⟨_,o,h2,p1,p2,p3⟩:=kL m o2 W;obtain⟨b,t,q1,q2⟩:=g.rel m o p1;exact⟨b,t,q1,U6 (E':=E2) hFz (fun _=>rfl) rfl nB o o2 h2 p2 p3 q2⟩
  . have q:w6 E rt w b=some c:=q;unfold w6 at q;split at q
    . rename_i U8;obtain⟨m,t,N,h3⟩:=U8;obtain⟨C,nX⟩:=bW.1 N;obtain⟨hms,o,k1,k2⟩:=Z1 m C nX;refine⟨?_,fun m' t' tr e1=>?_⟩
      . split at q
        . rename_i c' el fz I;cases q;exact⟨el,fz,I⟩
        . cases q
      . obtain⟨hnm,hw'⟩:=uz m' tr;exact g.inj m m' b t t' (fun z=>hnm (z▸hms)) ⟨o,k1,B0 k2⟩ hw'.live h3 e1
    . exact⟨(g.gQ b c q).1,fun m' t' tr=>(g.gQ b c q).2 m' t' (uz m' tr).2⟩
 refine⟨E2,⟨qN,r.oz,fun t v2 hv=>?_,r.size,IU (E':=E2) hFz (fun _=>rfl) rfl nB _ _ _ _ Gt hC1 r.gG⟩,⟨fun m b t _ q=>⟨q,rfl⟩,fun _ _=>rfl,nB,qN,aA _,rfl,rfl,rfl,fun _ _ _=>rfl,fun m b t W q _=>⟨m,t,F9 m W,q,fun z=>(uz m z).2⟩,fun b c q=>?_⟩,hn,fun _=>rfl⟩
 . obtain⟨v,h2,q1,q2,q3⟩:=wG _ _ _ yp t v2 hv;obtain⟨v',k1,k2⟩:=r.S t v q1;exact⟨v',k1,tU (E':=E2) hFz (fun _=>rfl) rfl nB _ _ _ _ q2 (fun x G=>hA1 x (q3 x G)) k2⟩
 . have q:w6 E rt w b=some c:=q;unfold w6 at q;split at q
   . rename_i U8;obtain⟨m,t,N,h3⟩:=U8;obtain⟨C,nX⟩:=bW.1 N;obtain⟨_,o,k1,k2⟩:=Z1 m C nX;exact .inr (.inr ⟨m,t,⟨o,k1,B0 k2⟩,h3⟩)
   . exact .inl q
theorem tV{P:Program}{M h1:Nat}{c:Code}{s s2:St}{cS:ah}{es:Exit->St->Prop}(ms:List Nat)(e:Yy ms s=some (cS,s2))(hA:∀x∈cS,x)(h:TG P M h1 c s2 es):TG P M h1 c s es:=by
 intro E a w be r hn k;obtain⟨E2,r2,u2,xK,_⟩:=wH e hA r hn;exact h E2 a w be r2 xK fun y s' E' a' w' q u pV r'=>k y s' E' a' w' q (u2.trans u) pV r'
def Fl(h:H lf):List Nat->Option (H lf)
 | []=>some h
 |m::r=>match h.get m with
  |some (.cells C)=>match iC C with
   |some ds=>match Nat.blt m fP with
    |true=>Fl (h.set m (some (.deep ds))) r
    |false=>none
   |none=>none
  |some (.own k ks)=>match Nat.blt m fP with
   |true=>Fl (h.set m (some (.deep (ks.map (.int k))))) r
   |false=>none
  |_=>none
section
variable{E:Env}{w:World}{b s:Nat}
theorem sL{h:H lf}{w:World}{m:Nat}{o o2:lf}(ht:m<fP)(W:h.get m=some o)(hw:o.wr=true)(ho:∀b s,E.ι m=some (b,s)->l7 E w b s o->l7 E w b s o2)(g:Good E h w):
  Good E (h.set m (some o2)) w/\∀j,((h.set m (some o2)).get j≠none↔h.get j≠none)/\(eE (h.set m (some o2)) j->eE h j):=by
 have kL:∀j,(h.set m (some o2)).get j=if j=m then some o2 else h.get j:=fun j=>H.eY _ _ _ ht
 have F9:∀j,((h.set m (some o2)).get j≠none↔h.get j≠none)/\(eE (h.set m (some o2)) j->eE h j):=by
  intro j;rw[kL];by_cases q:j=m
  . subst q;rw[aH rfl,W];exact⟨by simp,fun _=>⟨_,W,hw⟩⟩
  . rw[aI q];exact⟨Iff.rfl,fun z=>oS ht z q⟩
 refine⟨⟨fun j o' hj=>?_,fun j j' b s s' fU hj Q4 e1 e2=>g.inj j j' b s s' fU ((F9 j).2 hj) ((F9 j').1.1 Q4) e1 e2,g.mK,g.jh,fun b c q=>⟨g.fz b c q,fun m' s tr=>(g.gQ b c q).2 m' s ((F9 m').2 tr)⟩⟩,F9⟩;rw[kL]at hj;split at hj
 . rename_i q;subst q;obtain rfl:=ek hj;obtain⟨b,s,N,B⟩:=g.rel j _ W;exact⟨b,s,N,ho b s N B⟩
 . exact g.rel j o' hj
theorem KU{C:ag}{ds:ai}(hd:iC C=some ds)(r:l7 E w b s (.cells C)):l7 E w b s (.deep ds):=by
 obtain⟨c,el,fz,N,B,h3,h4⟩:=r;obtain⟨vs,k1,k2⟩:=sk.1 h4;exact⟨c,el,fz,vs,N,B,h3,tq hd k1,k2⟩
theorem Ra{k:IntKind}{ks:List Int}(r:l7 E w b s (.own k ks)):l7 E w b s (.deep (ks.map (.int k))):=by
 obtain⟨c,el,fz,N,B,h3,h4⟩:=r;have e:rs.l6 (ks.map (.int k))=ks.map (.int k):=by rw[rs.gB,List.map_map];rfl
 obtain⟨vs,k1,k2⟩:=(oo (fun x G=>by obtain⟨_,_,rfl⟩:=bA.1 G;rfl)).1 (by rw[e];exact h4:mz E s (rs.l6 (ks.map (.int k))) c);exact⟨c,el,fz,vs,N,B,h3,k1,k2⟩
end
theorem qV{E:Env}{w:World}:∀(l:List Nat) (h B:H lf),Fl h l=some B->Good E h w->Good E B w/\∀m,(B.get m≠none↔h.get m≠none)/\(eE B m->eE h m)
 | [],h,B,e,g=>by simp only[Fl,an]at e;subst e;exact⟨g,fun m=>⟨Iff.rfl,id⟩⟩
 |m::r,h,B,e,g=>by
  unfold Fl at e;split at e
  . rename_i C W;split at e
    case h_2=>cases e
    rename_i ds hd;split at e
    case h_2=>cases e
    rename_i ht;obtain⟨g1,k1⟩:=sL (au ht) W rfl (fun b s _ q=>KU hd q) g;obtain⟨g2,k2⟩:=qV r _ B e g1;exact⟨g2,fun j=>⟨(k2 j).1.trans (k1 j).1,fun z=>(k1 j).2 ((k2 j).2 z)⟩⟩
  . rename_i k ks W;split at e
    case h_2=>cases e
    rename_i ht;obtain⟨g1,k1⟩:=sL (au ht) W rfl (fun b s _ q=>Ra q) g;obtain⟨g2,k2⟩:=qV r _ B e g1;exact⟨g2,fun j=>⟨(k2 j).1.trans (k1 j).1,fun z=>(k1 j).2 ((k2 j).2 z)⟩⟩
  . cases e
def Dh(l:List Nat)(s:St):Option St:=match Fl s.h l with
 |some h=>some { s with h:=h }
 |none=>none
theorem KV{P:Program}{M h1:Nat}{c:Code}{s:St}{B:H lf}{es:Exit->St->Prop}(hg:∀E w,Good E s.h w->Good E B w/\∀m,(B.get m≠none↔s.h.get m≠none)/\(eE B m->eE s.h m))(h:TG P M h1 c { s with h:=B } es):TG P M h1 c s es:=by
 intro E a w be r hn k;obtain⟨g2,k2⟩:=hg E w r.good;have u:lM M E s.h w E B w:=⟨fun _ _ _ _ e=>⟨e,rfl⟩,fun _ _=>rfl,fun _ _ q=>q,g2,aA _,rfl,rfl,rfl,fun _ _ _=>rfl,fun m b s1 W e1 _=>⟨m,s1,(k2 m).1.1 W,e1,(k2 m).2⟩,fun _ _ q=>.inl q⟩;exact h E a w be ⟨g2,r.oz,r.S,r.size,r.gG⟩ hn fun y s' E' a' w' q u' pV r'=>k y s' E' a' w' q (u.trans u') pV r'
theorem tX{P:Program}{M h1:Nat}{c:Code}{s s2:St}{es:Exit->St->Prop}(l:List Nat)(e:Dh l s=some s2)(h:TG P M h1 c s2 es):TG P M h1 c s es:=by
 unfold Dh at e;split at e
 case h_2=>cases e
 rename_i B hh;obtain rfl:=ek e;exact KV (fun E w g=>qV l s.h B hh g) h
theorem Ox{E:Env}{w:World}{b s:Nat}{c:Nat}(kd:Option IntKind)(r:l7 E w b s (.map [] c)):l7 E w b s (.dI kd []):=by
 obtain⟨hs,gj,N,B⟩:=r;have:gj.toList=[]:=B;refine⟨hs,gj,c,N,⟨⟨[],.refl _,by rw[this];rfl⟩,by simp,by simp,by rw[this];simp,by rw[this];simp⟩⟩
def Rb(h:H lf):List (Nat×Option IntKind)->Option (H lf)
 | []=>some h
 |(m,kd)::r=>match h.get m with
  |some (.map [] _)=>match Nat.blt m fP with
   |true=>Rb (h.set m (some (.dI kd []))) r
   |false=>none
  |_=>none
theorem Ay{E:Env}{w:World}:∀(l:List (Nat×Option IntKind)) (h B:H lf),Rb h l=some B->Good E h w->Good E B w/\∀m,(B.get m≠none↔h.get m≠none)/\(eE B m->eE h m)
 | [],h,B,e,g=>by simp only[Rb,an]at e;subst e;exact⟨g,fun m=>⟨Iff.rfl,id⟩⟩
 |(m,kd)::r,h,B,e,g=>by
  unfold Rb at e;split at e
  case h_2=>cases e
  rename_i c W;split at e
  case h_2=>cases e
  rename_i ht;obtain⟨g1,k1⟩:=sL (au ht) W rfl (fun b s _ q=>Ox kd q) g;obtain⟨g2,k2⟩:=Ay r _ B e g1;exact⟨g2,fun j=>⟨(k2 j).1.trans (k1 j).1,fun z=>(k1 j).2 ((k2 j).2 z)⟩⟩
def Rc(l:List (Nat×Option IntKind))(s:St):Option St:=match Rb s.h l with
 |some h=>some { s with h:=h }
 |none=>none
theorem Az{P:Program}{M h1:Nat}{c:Code}{s s2:St}{es:Exit->St->Prop}(l:List (Nat×Option IntKind))(e:Rc l s=some s2)(h:TG P M h1 c s2 es):TG P M h1 c s es:=by
 unfold Rc at e;split at e
 case h_2=>cases e
 rename_i B hh;obtain rfl:=ek e;exact KV (fun E w g=>Ay l s.h B hh g) h
theorem Oy{E:Env}{w:World}{b s:Nat}{kd:Option IntKind}{Q uv:ae}(p:List.Perm Q uv)(r:l7 E w b s (.dI kd Q)):l7 E w b s (.dI kd uv):=by
 obtain⟨hs,gj,c,N,B⟩:=r;obtain⟨l,q1,q2⟩:=B.row;exact⟨hs,gj,c,N,⟨⟨l,q1.trans p,q2⟩,((p.map _).nodup_iff).1 B.keys,fun e he=>B.kind e (p.mem_iff.2 he),B.old,B.born⟩⟩
def Re:List (List Nat)->St->Option (ah×St)
 | [],s=>some ([],s)
 |ms::r,s=>match Yy ms s with
  |some (cS,s)=>match Re r s with
   |some (h2,s)=>some (cS++h2,s)
   |none=>none
  |none=>none
theorem Di{M h1:Nat}{w:World}{a:Act}:∀(l:List (List Nat)) {s s2:St} {cS:ah} {E:Env},Re l s=some (cS,s2)->(∀x∈cS,x)->kf E h1 s a w->M<=s.n->
  ∃E2,kf E2 h1 s2 a w/\lM M E s.h w E2 s2.h w/\M<=s2.n/\(∀m,E2.ι m=E.ι m)
 | [],s,s2,cS,E,e,_,r,hn=>by
   simp only[Re,an,aB]at e;obtain⟨rfl,rfl⟩:=e;exact⟨E,r,.refl r.good,hn,fun _=>rfl⟩
 |ms::l,s,s2,cS,E,e,hA,r,hn=>by
  simp only[Re]at e;split at e
  case h_2=>cases e
  rename_i A1 s1 N;split at e
  case h_2=>cases e
  rename_i B1 s3 h3;obtain⟨rfl,rfl⟩:=fg e;obtain⟨E1,r1,u1,n1,i1⟩:=wH N (fun x G=>hA x (by simp[G])) r hn;obtain⟨E2,r2,u2,n2,i2⟩:=Di l h3 (fun x G=>hA x (by simp[G])) r1 n1;exact⟨E2,r2,u1.trans u2,n2,fun m=>(i2 m).trans (i1 m)⟩
def nQ(v:V)(u:V)(h:H lf)(n:Nat):Prop:=∃l cS s2,Re l { S:=H.nil.set 0 (some u),h:=h,n:=n,gG:=[] }=some (cS,s2)/\(∀a∈cS,a)/\s2.S.get 0=some v
theorem nQ.self{v:V}{h:H lf}{n:Nat}:nQ v v h n:=⟨[],[],_,rfl,by simp,H.nr _ _ dU⟩
theorem Dj{E E1:Env}{h h0 h':H lf}{n n':Nat}{w w':World}{u v:V}{en:Ending}(g:Good E h w)(hd:qH E n)(kR:E1.φ=E.φ)(xq:∀m,¬eE h0 m)(hv:v.deep=true)(hz:nQ v u h' n')
  (c:jI E1 h0 gN w (.ret u) h' n' en w'):jI E h n w (.ret v) h n en w':=by
 obtain⟨E2,u2,_,rX,hn,ho⟩:=c;cases en with
 |returned x=>
  have ho:dK E2 u x:=ho;obtain⟨l,cS,s2,e1,hA,e2⟩:=hz;have sr:kf E2 1 { S:=H.nil.set 0 (some u),h:=h',n:=n',gG:=[] } { tmps:=#[x],defers:=[] } w':=by
   refine⟨u2.good,rX,fun t y hy=>?_,rfl,rfl⟩;rw[H.eY _ _ _ dU]at hy;split at hy
   . rename_i q;subst q;cases hy;exact⟨x,rfl,ho⟩
   . simp[H.get]at hy
  obtain⟨E3,r3,u3,_,_⟩:=Di (M:=0) l e1 hA sr (aX _);obtain⟨x',q1,q2⟩:=r3.S 0 v e2;simp only[List.getElem?_toArray,bI,an]at q1;subst q1;have IW:∀b,b<w.heap.size->w'.heap[b]? =w.heap[b]?:=fun b hb=>u2.keep b hb fun m s W=>absurd W (xq m);have bl:Below w.heap.size w w':=⟨u2.os,u2.tape,u2.output,u2.size,IW⟩;have gb:=g.below bl;have QG:∀b c,E3.φ b=some c->E.φ b=some c\/w.heap.size<=b:=by
   intro b c q;have k3:∀m s,eE h' m->E2.ι m=some (b,s)->w.heap.size<=b:=by
    intro m s W e;rcases bK b w.heap.size with z|z
    . obtain⟨m0,s0,_,_,k0⟩:=u2.s9 m b s W.live e z;exact absurd (k0 W) (xq m0)
    . exact z
   rcases u3.Ea b c q with q|q|⟨m,s,p1,p2⟩
   . rcases u2.Ea b c q with q|q|⟨m,s,p1,p2⟩
     . exact .inl (kR▸q)
     . exact .inr q
     . exact absurd p1 (xq m)
   . exact .inr (bX u2.size q)
   . exact .inr (k3 m s p1 p2)
  have Qn:∀b c,E.φ b=some c->E3.φ b=some c:=fun b c q=>u3.fz b c (u2.le.fz b c (kR▸q))
  let E':Env:=⟨E.ι,E.β,E3.φ⟩
  have ku:E.le E':=⟨fun m b s q=>⟨q,rfl⟩,Qn⟩;have aes:Good E' h w':=by
   refine⟨fun m o W=>?_,gb.inj,gb.mK,gb.jh,fun b c q=>⟨r3.good.fz b c q,fun m s W e=>?_⟩⟩
   . obtain⟨b,s,k1,k2⟩:=gb.rel m o W;exact⟨b,s,k1,gU ku rfl rfl k2⟩
   . rcases QG b c q with z|z
     . exact(g.gQ b c z).2 m s W e
     . have:=g.mK m b s e;omega
  refine⟨E',⟨ku,aes,u2.size,u2.tape,u2.os,u2.output,fun b hb _=>IW b hb,fun m b s W e _=>⟨m,s,W,e,id⟩,fun b c q=>?_⟩,fun _ _=>rfl,hd,aA _,(De (E:=E3) (E':=E') (fun _ _ q=>q) v x hv q2:dK E' v x)⟩;rcases QG b c q with z|z
  . exact .inl z
  . exact .inr (.inl z)
 |_=>exact ho.elim
def Dk(f:ag->Option (ah×V)):ag->H lf->Nat->Option (ah×V×H lf×Nat):=fun args h n=>match f args with
 |some (cS,v)=>some (cS,v,h,n)
 |none=>none
def KW(P:Program)(f:FuncId)(args:ag)(v:V):Prop:=∀E h n w de,dL E args de->Good E h w->qH E n->Calls P f de.toArray w (jI E h n w (.ret v) h n)
theorem IX{P:Program}{f:FuncId}{spec:ag->Option (ah×V)}(fI:f<P.funcs.size)(h:∀args cS v,spec args=some (cS,v)->(∀a∈cS,a)->KW P f args v):jv P f (Dk spec):=by
 refine⟨fI,fun args h' n cS v B n2 e hA E w de ra g hd I=>?_⟩;unfold Dk at e;split at e
 . rename_i A' v' hs;simp only[an,aB]at e;obtain⟨rfl,rfl,rfl,rfl⟩:=e;exact h args _ _ hs hA E h' n w de ra g hd
 . cases e
theorem ig{P:Program}(W:P.follows .mixedOrders=true)(wZ:kW P=true){f:FuncId}{fn:Func}{code:Code}(hf:P.funcs[f]? =some fn)(hb:fn.body=some code){args:ag}
  (l:(Nat.ble args.length fn.ntmps&&Nat.blt fn.ntmps fP)=true) {v:V} (hdp:V.pX args=true) (hv:v.deep=true) (hT:TG P gN fn.ntmps code (cU args .nil gN) (fJ P gN fn (nQ v))):KW P f args v:=by
 intro E h n w de ra g hd;have g0:Good (Uj E.φ) .nil w:=KG g.wg g.fz;have ra0:dL (Uj E.φ) args de:=lY (E:=E) (E':=Uj E.φ) (fun _ _ q=>q) _ _ hdp ra;exact(o7 W wZ hf hb l _ hT ra0 g0 (QI (aA _))).mono fun e w' ⟨u,h',n',hz,k⟩=>Dj (E1:=Uj E.φ) g hd rfl KS hv hz k
def Fm:ag->Option (ai)
 | []=>some []
 |x::xs=>match V.PN x with
  |some d=>match Fm xs with
   |some l=>some (d::l)
   |none=>none
  |none=>none
theorem AA{E:Env}:∀{xs:ag} {ds:ai},Fm xs=some ds->∀{l:List Value},dL E xs l->dL E (ds.map rs.iZ) l
 | [],ds,h,l,r=>by simp only[Fm,an]at h;subst h;exact r
 |x::xs,ds,h,l,r=>by
  simp only[Fm]at h;split at h
  case h_2=>cases h
  rename_i d hd;split at h
  case h_2=>cases h
  rename_i l' hl;obtain rfl:=ek h;obtain⟨y,ys,r0,D,rfl⟩:=r;exact⟨y,ys,my _ _ (F6 hd r0).1,AA hl D,rfl⟩
def dW(f:ai->Option (ah×V)):ag->H lf->Nat->Option (ah×V×H lf×Nat):=fun args h n=>match Fm args with
 |some ds=>match f ds with
  |some (cS,v)=>some (cS,v,h,n)
  |none=>none
 |none=>none
theorem vE{P:Program}{f:FuncId}{spec:ai->Option (ah×V)}(fI:f<P.funcs.size)(h:∀args cS v,spec args=some (cS,v)->(∀a∈cS,a)->KW P f (args.map rs.iZ) v):jv P f (dW spec):=by
 refine⟨fI,fun args h' n cS v B n2 e hA E w de ra g hd I=>?_⟩;unfold dW at e;split at e
 . rename_i ds hds;split at e
   . rename_i A' v' hs;simp only[an,aB]at e;obtain⟨rfl,rfl,rfl,rfl⟩:=e;exact h ds _ _ hs hA E h' n w de (AA hds ra) g hd
   . cases e
 . cases e
def Env.pick(E:Env)(ns:List (Option Nat)):Env:=⟨fun j=>match ns.getD j none with
 |some m=>E.ι m
 |none=>none,E.β,E.φ⟩
theorem mG{E:Env}{ns:List (Option Nat)}{j m:Nat}(h:ns.getD j none=some m):(E.pick ns).ι j=E.ι m:=by
 show(match ns.getD j none with|some m=>E.ι m|none=>none)=_;rw[h]
def AB:List (Option Nat)->Nat->Nat->Option Nat
 | [],_,_=>none
 |none::r,j,m=>AB r (j+1) m
 |some k::r,j,m=>match Nat.beq k m with
  |true=>some j
  |false=>AB r (j+1) m
theorem AD:∀(l:List (Option Nat)) (j m k:Nat),AB l j m=some k->j<=k/\l.getD (k-j) none=some m
 | [],_,_,_,h=>by cases h
 |none::r,j,m,k,h=>by
  obtain⟨N,B⟩:=AD r (j+1) m k h;refine⟨K,?_⟩;rw[show k-j=(k-(j+1))+1 by omega];simpa using B
 |some x::r,j,m,k,h=>by
  simp only[AB]at h;split at h
  . rename_i hb;obtain rfl:=ek h;refine⟨aA _,?_⟩;simp[aD hb]
  . obtain⟨N,B⟩:=AD r (j+1) m k h;refine⟨K,?_⟩;rw[show k-j=(k-(j+1))+1 by omega];simpa using B
abbrev mu(ns:List (Option Nat)):Nat->Option Nat:=AB ns 0
theorem MK{ns:List (Option Nat)}{m k:Nat}(h:mu ns m=some k):ns.getD k none=some m:=by
 have:=(AD ns 0 m k h).2;simpa using this
theorem Rf{E:Env}{ns:List (Option Nat)}:∀m k,mu ns m=some k->(E.pick ns).ι k=E.ι m:=fun _ _ h=>mG (MK h)
def nG:List (Option Nat)->Bool
 | []=>true
 |none::r=>nG r
 |some k::r=>!(r.any fun x=>match x with|some j=>Nat.beq k j|none=>false)&&nG r
theorem o8:∀{l:List (Option Nat)},nG l=true->∀i j m,l.getD i none=some m->l.getD j none=some m->i=j
 | [],_,i,_,_,h,_=>by simp at h
 |none::r,h,i,j,m,N,B=>by
  cases i with
  |zero=>simp at N
  |succ i=>cases j with
   |zero=>simp at B
   |succ j=>rw[o8 (l:=r) h i j m (by simpa using N) (by simpa using B)]
 |some k::r,h,i,j,m,N,B=>by
  simp only[nG,aC,Bool.not_eq_true']at h;have no:∀q,r.getD q none≠some k:=by
   intro q hq;have W:some k∈r:=by
    rw[aM]at hq;cases G:r[q]? with
    |none=>rw[G]at hq;cases hq
    |some x=>rw[G]at hq;simp only[Option.getD_some]at hq;subst hq;exact bf G
   have:(r.any fun x=>match x with|some j=>Nat.beq k j|none=>false)=true:=List.any_eq_true.2 ⟨_,W,cO k⟩;rw[this]at h;cases h.1
  cases i with
  |zero=>
   simp at N;subst N;cases j with
   |zero=>rfl
   |succ j=>exact absurd (by simpa using B) (no j)
  |succ i=>cases j with
   |zero=>simp at B;subst B;exact absurd (by simpa using N) (no i)
   |succ j=>rw[o8 h.2 i j m (by simpa using N) (by simpa using B)]
structure rY(ns:List (Option Nat))(h N:H lf):Prop where
 jh:∀p∈jU,ns.getD p.2 none=some p.2
 one:nG ns=true
 live:∀j m,ns.getD j none=some m->(∃p∈jU,p.2=m)\/h.get m≠none
 get:∀j o1,N.get j=some o1->∃m o,ns.getD j none=some m/\h.get m=some o/\o.rn (mu ns)=some o1
theorem ML{E:Env}{h N:H lf}{w:World}{ns:List (Option Nat)}(g:Good E h w)(k:rY ns h N):Good (E.pick ns) N w/\qH (E.pick ns) ns.length:=by
 have hw:∀j,eE N j->∃m,ns.getD j none=some m/\eE h m:=by
  rintro j ⟨o1,B,h3⟩;obtain⟨m,o,q1,q2,q3⟩:=k.get j o1 B;exact⟨m,q1,o,q2,(Bi q3).symm.trans h3⟩
 refine⟨⟨fun j o1 hj=>?_,fun j j' b s s' fU hj Q4 e1 e2=>?_,fun j b s e=>?_,fun p hp=>?_,fun b c q=>⟨g.fz b c q,fun j s hj e=>?_⟩⟩,fun j hj=>?_⟩
 . obtain⟨m,o,q1,q2,q3⟩:=k.get j o1 hj;obtain⟨b,s,e1,e2⟩:=g.rel m o q2;exact⟨b,s,(mG q1).trans e1,BU (E':=E.pick ns) Rf (fun _ _ _ _ _ _=>rfl) (fun _ _ q=>q) rfl o o1 q3 e2⟩
 . obtain⟨m,q1,q2⟩:=hw j hj;obtain⟨o',Q4⟩:=bh.1 Q4;obtain⟨m',o,p1,p2,_⟩:=k.get j' o' Q4;rw[mG q1]at e1;rw[mG p1]at e2;by_cases W:m=m'
   . subst W;exact fU (o8 k.one j j' m q1 p1)
   . exact g.inj m m' b s s' W q2 (by rw[p2];simp) e1 e2
 . have e:(match ns.getD j none with|some m=>E.ι m|none=>none)=some (b,s):=e;split at e
   . exact g.mK _ b s e
   . cases e
 . rw[mG (k.jh p hp)];exact g.jh p hp
 . obtain⟨m,q1,q2⟩:=hw j hj;rw[mG q1]at e;exact(g.gQ b c q).2 m s q2 e
 . show(match ns.getD j none with|some m=>E.ι m|none=>none)=none;rw[aM,bN (show ns.length<=j from hj)];rfl
def Rg(ns:List (Option Nat))(mA:H lf)(M n m:Nat):Option Nat:=match Nat.blt m M with
 |true=>ns.getD m none
 |false=>match mA.get m with
  |some o=>match o.wr with
   |true=>some (n+(m-M))
   |false=>none
  |none=>none
def oC(ν:Nat->Option Nat)(ns:List (Option Nat))(N mA:H lf):Nat->Nat->H lf->Option (H lf)
 |0,_,h=>some h
 |i+1,q,h=>match N.get q with
  |some o0=>match o0.wr with
   |true=>match ns.getD q none with
    |some m=>match Nat.blt m fP with
     |true=>match mA.get q with
      |some o=>match o.wr with
       |true=>match o.rn ν with
        |some o2=>oC ν ns N mA i (q+1) (h.set m (some o2))
        |none=>none
       |false=>none
      |none=>oC ν ns N mA i (q+1) (h.set m none)
     |false=>none
    |none=>none
   |false=>oC ν ns N mA i (q+1) h
  |none=>oC ν ns N mA i (q+1) h
def IY(ν:Nat->Option Nat)(N:H lf):Nat->Nat->H lf->Option (H lf)
 |0,_,h=>some h
 |i+1,j,h=>match ν j with
  |none=>IY ν N i (j+1) h
  |some k=>match N.get j with
   |some o=>match o.rn ν with
    |some o2=>match Nat.blt k fP with
     |true=>IY ν N i (j+1) (h.set k (some o2))
     |false=>none
    |none=>none
   |none=>none
def BK(ns:List (Option Nat))(N:H lf)(r:V×H lf×Nat)(h:H lf)(n:Nat):Option (V×H lf×Nat):=
 match r.1.rn (Rg ns r.2.1 ns.length n)with
 |some v=>match oC (Rg ns r.2.1 ns.length n) ns N r.2.1 ns.length 0 h with
  |some B=>match IY (Rg ns r.2.1 ns.length n) r.2.1 (r.2.2-ns.length) ns.length B with
   |some h3=>some (v,h3,n+(r.2.2-ns.length))
   |none=>none
  |none=>none
 |none=>none
theorem wI{ν:Nat->Option Nat}{ns:List (Option Nat)}{N mA:H lf}:∀(i q:Nat) (h B:H lf),oC ν ns N mA i q h=some B->∀m o,B.get m=some o->
  (h.get m=some o/\∀p,q<=p->p<q+i->eE N p->ns.getD p none≠some m)\/∃p,q<=p/\p<q+i/\eE N p/\ns.getD p none=some m/\∃o1,mA.get p=some o1/\o1.wr=true/\o1.rn ν=some o
 |0,q,h,B,e,m,o,W=>by simp only[oC,an]at e;subst e;exact .inl ⟨W,fun p N B=>by omega⟩
 |i+1,q,h,B,e,m,o,W=>by
  simp only[oC]at e;have skip:(¬eE N q)->oC ν ns N mA i (q+1) h=some B->_:=fun hq e=>wI i (q+1) h B e m o W;have EV:∀(h':H lf) (x:Option lf) (m0:Nat),m0<fP->h'=h.set m0 x->eE N q->ns.getD q none=some m0->(∀y,x=some y->∃o1,mA.get q=some o1/\o1.wr=true/\o1.rn ν=some y)->oC ν ns N mA i (q+1) h'=some B->
    (h.get m=some o/\∀p,q<=p->p<q+(i+1)->eE N p->ns.getD p none≠some m)\/∃p,q<=p/\p<q+(i+1)/\eE N p/\ns.getD p none=some m/\∃o1,mA.get p=some o1/\o1.wr=true/\o1.rn ν=some o:=by
   intro h' x m0 ht hh hw Gc G e;rcases wI i (q+1) h' B e m o W with⟨k1,k2⟩|⟨p,k1,k2,k3⟩
   . rw[hh,H.eY _ _ _ ht]at k1;split at k1
     . rename_i z;subst z;exact .inr ⟨q,aA _,K,hw,Gc,G o k1⟩
     . rename_i z;refine .inl ⟨k1,fun p p1 p2 p3=>?_⟩;rcases Nat.eq_or_lt_of_le p1 with rfl|p1
       . rw[Gc];intro c;cases c;exact z rfl
       . exact k2 p p1 K p3
   . exact .inr ⟨p,K,K,k3⟩
  have aet:(¬eE N q)->oC ν ns N mA i (q+1) h=some B->
    (h.get m=some o/\∀p,q<=p->p<q+(i+1)->eE N p->ns.getD p none≠some m)\/∃p,q<=p/\p<q+(i+1)/\eE N p/\ns.getD p none=some m/\∃o1,mA.get p=some o1/\o1.wr=true/\o1.rn ν=some o:=by
   intro hq e;rcases wI i (q+1) h B e m o W with⟨k1,k2⟩|⟨p,k1,k2,k3⟩
   . refine .inl ⟨k1,fun p p1 p2 p3=>?_⟩;rcases Nat.eq_or_lt_of_le p1 with rfl|p1
     . exact absurd p3 hq
     . exact k2 p p1 K p3
   . exact .inr ⟨p,K,K,k3⟩
  split at e
  . rename_i o0 ho0;split at e
    . rename_i Rh;split at e
      case h_2=>cases e
      rename_i m0 Gc;split at e
      case h_2=>cases e
      rename_i ht;have ht:=au ht;split at e
      . rename_i o1 ho1;split at e
        case h_2=>cases e
        rename_i HE;split at e
        case h_2=>cases e
        rename_i o2 UR;exact EV _ (some o2) m0 ht rfl ⟨o0,ho0,Rh⟩ Gc (fun y hy=>by cases hy;exact⟨o1,ho1,HE,UR⟩) e
      . exact EV _ none m0 ht rfl ⟨o0,ho0,Rh⟩ Gc (fun y hy=>by cases hy) e
    . rename_i Rh;exact aet (fun⟨o,q1,q2⟩=>by rw[ho0]at q1;cases q1;rw[Rh]at q2;cases q2) e
  . rename_i ho0;exact aet (fun⟨o,q1,q2⟩=>by rw[ho0]at q1;cases q1) e
theorem AE{ν:Nat->Option Nat}{N:H lf}:∀(i j:Nat) (h B:H lf),IY ν N i j h=some B->∀m o,B.get m=some o->h.get m=some o\/∃q,j<=q/\q<j+i/\ν q=some m/\∃o1,N.get q=some o1/\o1.rn ν=some o
 |0,j,h,B,e,m,o,W=>by simp only[IY,an]at e;subst e;exact .inl W
 |i+1,j,h,B,e,m,o,W=>by
  simp only[IY]at e;split at e
  . rcases AE i (j+1) h B e m o W with q|⟨q,q1,q2,q3⟩
    . exact .inl q
    . exact .inr ⟨q,K,K,q3⟩
  . rename_i k hk;split at e
    case h_2=>cases e
    rename_i o1 ho;split at e
    case h_2=>cases e
    rename_i o2 UR;split at e
    case h_2=>cases e
    rename_i ht;rcases AE i (j+1) _ B e m o W with q|⟨q,q1,q2,q3⟩
    . rw[H.eY _ _ _ (show k<fP from au ht)]at q;split at q
      . rename_i z;subst z;obtain rfl:=ek q;exact .inr ⟨j,aA _,K,hk,o1,ho,UR⟩
      . exact .inl q
    . exact .inr ⟨q,K,K,q3⟩
theorem MM{E:Env}{h N:H lf}{n:Nat}{w:World}{ns:List (Option Nat)}{r:V×H lf×Nat}{v:V}{B:H lf}{n2:Nat}(g:Good E h w)(hd:qH E n)(k0:rY ns h N)
  (he:BK ns N r h n=some (v,B,n2)) {en:Ending} {w':World} (c:jI (E.pick ns) N ns.length w (.ret r.1) r.2.1 r.2.2 en w'):jI E h n w (.ret v) B n2 en w':=by
 obtain⟨v1,mA,HL⟩:=r;obtain⟨E2,u,fQ,rX,hn,ho⟩:=c;simp only at u rX hn ho;unfold BK at he;simp only at he;split at he
 case h_2=>cases he
 rename_i v' hv;split at he
 case h_2=>cases he
 rename_i hL' hhL;split at he
 case h_2=>cases he
 rename_i hH' hhH;simp only[an,aB]at he;obtain⟨rfl,rfl,rfl⟩:=he;generalize UH:ns.length=M at *
 let ν:=Rg ns mA M n
 have Z2:∀m k,m<M->ν m=some k->ns.getD m none=some k:=by
  intro m k W hk;have hb:Nat.blt m M=true:=cH W;simp only[ν,Rg,hb]at hk;exact hk
 have GN:∀m k,M<=m->ν m=some k->k=n+(m-M)/\eE mA m:=by
  intro m k W hk;have hb:Nat.blt m M=false:=by
   cases q:Nat.blt m M with
   |false=>rfl
   |true=>exact absurd (au q) (Nat.not_lt.2 W)
  simp only[ν,Rg,hb]at hk;split at hk
  . rename_i o ho1;split at hk
    . rename_i hw;simp only[an]at hk;exact⟨hk.symm,o,ho1,hw⟩
    . cases hk
  . cases hk
 have pre:∀j,eE N j->∃m,ns.getD j none=some m/\eE h m:=by
  rintro j ⟨o1,q2,q3⟩;obtain⟨m,o,p1,p2,p3⟩:=k0.get j o1 q2;exact⟨m,p1,o,p2,(Bi p3).symm.trans q3⟩
 have akX:∀j,N.get j≠none->∃m,ns.getD j none=some m/\h.get m≠none:=by
  intro j hj;obtain⟨o1,q2⟩:=bh.1 hj;obtain⟨m,o,p1,p2,_⟩:=k0.get j o1 q2;exact⟨m,p1,by rw[p2];simp⟩
 have old:∀j b s,mA.get j≠none->E2.ι j=some (b,s)->b<w.heap.size->∃m s0,h.get m≠none/\E.ι m=some (b,s0)/\(∃j0,ns.getD j0 none=some m/\j0<M/\(eE mA j->eE N j0))/\(eE mA j->eE h m):=by
  intro j b s hj e hb;obtain⟨j0,s0,q1,q2,q3⟩:=u.s9 j b s hj e hb;obtain⟨m,p1,p2⟩:=akX j0 q1;have hj0:j0<M:=by
   rcases bK j0 M with z|z
   . exact z
   . rw[aM,bN K]at p1;cases p1
  refine⟨m,s0,p2,by rw[<- mG p1];exact q2,⟨j0,p1,hj0,q3⟩,fun z=>?_⟩;obtain⟨m',p3,p4⟩:=pre j0 (q3 z);rw[p1]at p3;cases p3;exact p4
 let E':Env:=⟨fun m=>if m<n then E.ι m else(match ν (M+(m-n))with|some _=>E2.ι (M+(m-n))|none=>none),fun b=>if b<w.heap.size then E.β b else E2.β b,E2.φ⟩
 have xu:∀m,m<n->E'.ι m=E.ι m:=fun m W=>aH W;have aeu:∀j k,M<=j->ν j=some k->E'.ι k=E2.ι j:=by
  intro j k hj hk;obtain⟨rfl,_⟩:=GN j k hj hk;show(if n+(j-M)<n then _ else _)=_;rw[aI K];have:M+(n+(j-M)-n)=j:=by omega
  rw[this,hk]
 have aev:∀m k,m<M->ns.getD m none=some k->E2.ι m=E.ι k:=fun m k W hk=>(fQ m W).trans (mG hk);have hkn:∀k,E.ι k≠none->k<n:=fun k e=>by
  rcases bK k n with q|q
  . exact q
  . exact absurd (hd k q) e
 have jj:∀m k,ν m=some k->E'.ι k=E2.ι m:=by
  intro m k hk;by_cases W:m<M
  . have Gc:=Z2 m k W hk;rw[aev m k W Gc];by_cases EU:k<n
    . exact xu k EU
    . exact absurd (hkn k (by
       rcases k0.live m k Gc with⟨p,hp,rfl⟩|q
       . rw[g.jh p hp];simp
       . obtain⟨o,q⟩:=bh.1 q;obtain⟨b,s,e,_⟩:=g.rel k o q;rw[e];simp)) EU
  . exact aeu m k (Nat.le_of_not_lt W) hk
 have ku:E.le E':=by
  refine⟨fun m b s e=>?_,fun b c q=>u.le.fz b c q⟩;exact⟨(xu m (hkn m (by rw[e];simp))).trans e,aH (g.mK m b s e)⟩
 have Z3:qH E' (n+(HL-M)):=by
  intro m W;have W:n+(HL-M)<=m:=W;show(if m<n then _ else _)=none;rw[aI K];split
  . exact rX _ (by show HL<=_;omega)
  . rfl
 have Z4:∀m k b s,ν m=some k->E2.ι m=some (b,s)->E'.β b=E2.β b:=by
  intro m k b s hk e;show(if b<w.heap.size then E.β b else E2.β b)=_;split
  . rename_i hb;by_cases W:m<M
    . have e1:(E.pick ns).ι m=some (b,s):=by rw[<- fQ m W];exact e
      exact(u.le.nm m b s e1).2.symm
    . obtain⟨_,hw⟩:=GN m k (Nat.le_of_not_lt W) hk;obtain⟨j0,s0,q1,q2,_⟩:=u.s9 m b s hw.live e hb;exact(u.le.nm j0 b s0 q2).2.symm
  . rfl
 have mW:∀m o,hH'.get m=some o->(h.get m=some o/\m<n/\∀p,eE N p->ns.getD p none≠some m)\/(∃q,ν q=some m/\eE mA q/\(q<M->eE N q)/\∃o1,mA.get q=some o1/\o1.rn ν=some o):=by
  intro m o W;rcases AE _ _ _ _ hhH m o W with q|⟨q,q1,q2,q3,q4⟩
  . rcases wI _ _ _ _ hhL m o q with⟨k1,k2⟩|⟨p,k1,k2,k3,k4,o1,k5,k6,k7⟩
    . refine .inl ⟨k1,?_,fun p hp Gc=>?_⟩
      . obtain⟨b,s,e,_⟩:=g.rel m o k1;exact hkn m (by rw[e];simp)
      . have hp0:p<M:=by
         rcases bK p M with z|z
         . exact z
         . rw[aM,bN K]at Gc;cases Gc
        exact k2 p (aX _) K hp Gc
    . have hp0:p<M:=by omega
      refine .inr ⟨p,?_,⟨o1,k5,k6⟩,fun _=>k3,o1,k5,k7⟩;have hb:Nat.blt p M=true:=cH hp0;show Rg ns mA M n p=some m;simp only[Rg,hb];exact k4
  . obtain⟨o1,p1,p2⟩:=q4;exact .inr ⟨q,q3,(GN q m q1 q3).2,fun z=>absurd z (Nat.not_lt.2 q1),o1,p1,p2⟩
 have keep:∀m o,h.get m=some o->(∀p,eE N p->ns.getD p none≠some m)->∀b s,E.ι m=some (b,s)->w'.heap[b]? =w.heap[b]?:=by
  intro m o W hp b s e;refine u.keep b (g.mK m b s e) fun j t hj e2=>?_;obtain⟨m',p1,p2⟩:=pre j hj;rw[mG p1]at e2;exact g.inj m' m b t s (fun z=>hp j hj (z▸p1)) p2 (by rw[W];simp) e2 e
 have qN:Good E' hH' w':=by
  refine⟨?_,?_,?_,g.jh.mono ku,fun b c q=>⟨u.good.fz b c q,?_⟩⟩
  . intro m o W;rcases mW m o W with⟨h0,P6,hp⟩|⟨q,q1,_,_,o1,q3,q4⟩
    . obtain⟨b,s,e1,e2⟩:=g.rel m o h0;exact⟨b,s,(ku.nm m b s e1).1,gU ku (ku.nm m b s e1).2 (keep m o h0 hp b s e1) e2⟩
    . obtain⟨b,s,e1,e2⟩:=u.good.rel q o1 q3;exact⟨b,s,(jj q m q1).trans e1,BU (E':=E') jj Z4 (fun _ _ q=>q) (Z4 q m b s q1 e1) o1 o q4 e2⟩
  . rintro m m' b s s' fU ⟨o,W,hw⟩ tr e1 e2;obtain⟨o',tr⟩:=bh.1 tr;rcases mW m o W with⟨h0,P6,hp⟩|⟨q,q1,q2,q5,o1,q3,q4⟩<;>rcases mW m' o' tr with⟨h0',aew,PD⟩|⟨q',q1',q2',q5',o1',q3',q4'⟩
    . rw[xu m P6]at e1;rw[xu m' aew]at e2;exact g.inj m m' b s s' fU ⟨o,h0,hw⟩ (by rw[h0'];simp) e1 e2
    . rw[xu m P6]at e1;rw[jj q' m' q1']at e2;obtain⟨mm,s0,k1,k2,⟨j0,k3,_,k5⟩,k4⟩:=old q' b s' q2'.live e2 (g.mK m b s e1);exact g.inj m mm b s s0 (fun z=>hp j0 (k5 q2') (z▸k3)) ⟨o,h0,hw⟩ k1 e1 k2
    . rw[xu m' aew]at e2;rw[jj q m q1]at e1;obtain⟨mm,s0,k1,k2,⟨j0,k3,_,k5⟩,k4⟩:=old q b s q2.live e1 (g.mK m' b s' e2);exact g.inj mm m' b s0 s' (fun z=>PD j0 (k5 q2) (z▸k3)) (k4 q2) (by rw[h0'];simp) k2 e2
    . rw[jj q m q1]at e1;rw[jj q' m' q1']at e2;exact u.good.inj q q' b s s' (fun z=>fU (by subst z;rw[q1]at q1';exact cF q1')) q2 q2'.live e1 e2
  . intro m b s e;by_cases W:m<n
    . rw[xu m W]at e;exact bF (g.mK m b s e) u.size
    . have e:(if m<n then E.ι m else(match ν (M+(m-n))with|some _=>E2.ι (M+(m-n))|none=>none))=some (b,s):=e;rw[aI W]at e;split at e
      . exact u.good.mK _ b s e
      . cases e
  . rintro m s ⟨o,W,hw⟩ e;rcases mW m o W with⟨h0,P6,hp⟩|⟨q',q1,q2,_⟩
    . rw[xu m P6]at e;rcases u.Ea b c q with z|z|⟨j,t,z1,z2⟩
      . exact(g.gQ b c z).2 m s ⟨o,h0,hw⟩ e
      . have:=g.mK m b s e;omega
      . obtain⟨m',p1,p2⟩:=pre j z1;rw[mG p1]at z2;exact g.inj m m' b s t (fun z=>hp j z1 (z▸p1)) ⟨o,h0,hw⟩ p2.live e z2
    . rw[jj q' m q1]at e;exact(u.good.gQ b c q).2 q' s q2 e
 refine⟨E',⟨ku,qN,u.size,u.tape,u.os,u.output,fun b hb sB=>?_,?_,fun b c q=>?_⟩,fun m W=>xu m W,Z3,Nat.le_add_right _ _,?_⟩
 . refine u.keep b hb fun j t hj e=>?_;obtain⟨m',p1,p2⟩:=pre j hj;rw[mG p1]at e;exact sB m' t p2 e
 . intro m b s W e hb;obtain⟨o,W⟩:=bh.1 W;rcases mW m o W with⟨h0,P6,hp⟩|⟨q,q1,q2,_⟩
   . rw[xu m P6]at e;exact⟨m,s,by rw[h0];simp,e,fun⟨o',k1,k2⟩=>⟨o,h0,by rw[W]at k1;cases k1;exact k2⟩⟩
   . rw[jj q m q1]at e;obtain⟨mm,s0,k1,k2,_,k4⟩:=old q b s q2.live e hb;exact⟨mm,s0,k1,k2,fun _=>k4 q2⟩
 . rcases u.Ea b c q with z|z|⟨j,t,z1,z2⟩
   . exact .inl z
   . exact .inr (.inl z)
   . obtain⟨m',p1,p2⟩:=pre j z1;rw[mG p1]at z2;exact .inr (.inr ⟨m',t,p2,z2⟩)
 . cases en with
   |returned x=>exact tJ (E':=E') jj Z4 (fun _ _ q=>q) v1 _ x hv ho
   |_=>exact ho.elim
theorem AF{P:Program}(W:P.follows .mixedOrders=true)(wZ:kW P=true){f:FuncId}{fn:Func}{code:Code}(hf:P.funcs[f]? =some fn)(hb:fn.body=some code){args ld:ag}{ns:List (Option Nat)}{h N B mA:H lf}{n n2 HL:Nat}{v v1:V}
  (l:(Nat.ble ld.length fn.ntmps&&Nat.blt fn.ntmps fP)=true) (k:rY ns h N) (ka:V.y9 (mu ns) args=some ld) (he:BK ns N (v1,mA,HL) h n=some (v,B,n2))
  (hT:TG P ns.length fn.ntmps code (cU ld N ns.length) (fJ P ns.length fn fun a b c=>a=v1/\b=mA/\c=HL))
  {E:Env} {w:World} {de:List Value} (ra:dL E args de) (g:Good E h w) (hd:qH E n):Calls P f de.toArray w (jI E h n w (.ret v) B n2):=by
 obtain⟨g1,d1⟩:=ML g k;have ra1:dL (E.pick ns) ld de:=tK (E':=E.pick ns) Rf (fun _ _ _ _ _ _=>rfl) (fun _ _ q=>q) _ _ _ ka ra;exact(tR W wZ hf hb l v1 mA HL hT ra1 g1 d1).mono fun en w' c=>MM g hd k he c
end Go.Eng
