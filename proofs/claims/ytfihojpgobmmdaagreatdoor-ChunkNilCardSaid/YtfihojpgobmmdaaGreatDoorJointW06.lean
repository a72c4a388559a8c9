/- Lemmas of the engine. No conditions. -/
import Derived.Test.YtfihojpgobmmdaaGreatDoorJointW04
import Derived.Maps.RangeRun
set_option linter.unusedVariables false
set_option linter.unusedSimpArgs false
set_option linter.unusedSectionVars false
set_option maxRecDepth 10000
namespace Go.Eng
open Go Go.RowKit
abbrev fC(a:ag)(h:H lf)(n:Nat):Prop:=a=a/\h=h/\n=n
def fG(C:fb)(f:FuncId)(args:ag)(h:H lf)(n:Nat)(r:V×H lf×Nat):fb:=fun f' a' h' n'=>match Nat.beq f' f with
 |true=>some [(⟨[],[],[a'=args/\h'=h/\n'=n]⟩,r)]
 |false=>C f' a' h' n'
open Classical in
noncomputable def RC(cf:fT)(f:FuncId)(args:ag)(h:H lf)(n:Nat)(r:V×H lf×Nat):fT:=fun f' a' h' n'=>
 if f'=f then(if a'=args/\h'=h/\n'=n then some (.ret r.1,r.2.1,r.2.2)else none)else cf f' a' h' n'
theorem Ld{C:fb}{cf:fT}(hs:pP C cf)(f:FuncId)(args:ag)(h:H lf)(n:Nat)(r:V×H lf×Nat):pP (fG C f args h n r) (RC cf f args h n r):=by
 intro f' a' h' n';unfold fG RC;by_cases hf:f'=f
 . subst hf;rw[cO,aH rfl];intro l e;obtain rfl:=ek e;refine⟨⟨_,aq.2 rfl,fun c I=>by simp at I⟩,fun e he _ hg=>?_⟩;simp only[aq]at he;subst he;have:a'=args/\h'=h/\n'=n:=hg.2 _ (aq.2 rfl);simp only;rw[aH this];rfl
 . have:Nat.beq f' f=false:=by
    cases q:Nat.beq f' f with
    |false=>rfl
    |true=>exact absurd (aD q) hf
   rw[this,aI hf];exact hs f' a' h' n'
theorem Vh{P:Program}{cf:fT}(hk:jq P cf){f:FuncId}{args:ag}{h:H lf}{n:Nat}{v:V}{N:H lf}{n1:Nat}(fI:f<P.funcs.size)
  (I:∀E w de,dL E args de->Good E h w->qH E n->Calls P f de.toArray w (jI E h n w (.ret v) N n1)):jq P (RC cf f args h n (v,N,n1)):=by
 intro f' a' h' n' aaS B n2 e E w de ra g hd;unfold RC at e;split at e
 . rename_i hf;subst hf;split at e
   . rename_i hq;obtain⟨rfl,rfl,rfl⟩:=hq;simp only[an,aB]at e;obtain⟨rfl,rfl,rfl⟩:=e;exact⟨fun _=>I E w de ra g hd,fun m l s hf _=>absurd fI (by rw[hf];exact Nat.not_lt.2 (Nat.le_add_right _ _))⟩
   . cases e
 . exact hk f' a' h' n' aaS B n2 e E w de ra g hd
noncomputable def CX.jA{P:Program}(fl:CX P){f:FuncId}{args:ag}{h:H lf}{n:Nat}{v:V}{N:H lf}{n1:Nat}(fI:f<P.funcs.size)
  (I:∀E w de,dL E args de->Good E h w->qH E n->Calls P f de.toArray w (jI E h n w (.ret v) N n1)):CX P:=
 ⟨fG fl.C f args h n (v,N,n1),RC fl.cf f args h n (v,N,n1),Ld fl.snd f args h n (v,N,n1),Vh fl.ok fI I⟩
def Bp(C:fb)(f:FuncId)(q:ag->Bool)(args:ag)(h:H lf)(n:Nat)(r:V×H lf×Nat):fb:=fun f' a' h' n'=>match Nat.beq f' f&&q a' with
 |true=>some [(⟨[],[],[a'=args/\h'=h/\n'=n]⟩,r)]
 |false=>C f' a' h' n'
open Classical in
noncomputable def I3(cf:fT)(f:FuncId)(q:ag->Bool)(args:ag)(h:H lf)(n:Nat)(r:V×H lf×Nat):fT:=fun f' a' h' n'=>
 if(Nat.beq f' f&&q a')=true then(if a'=args/\h'=h/\n'=n then some (.ret r.1,r.2.1,r.2.2)else none)else cf f' a' h' n'
theorem I4{C:fb}{cf:fT}(hs:pP C cf)(f:FuncId)(q:ag->Bool)(args:ag)(h:H lf)(n:Nat)(r:V×H lf×Nat):pP (Bp C f q args h n r) (I3 cf f q args h n r):=by
 intro f' a' h' n';unfold Bp I3;cases hb:(Nat.beq f' f&&q a')with
 |true=>
  rw[aH rfl];intro l e;obtain rfl:=ek e;refine⟨⟨_,aq.2 rfl,fun c I=>by simp at I⟩,fun e he _ hg=>?_⟩;simp only[aq]at he;subst he;have:a'=args/\h'=h/\n'=n:=hg.2 _ (aq.2 rfl);simp only;rw[aH this];rfl
 |false=>
  rw[aI (by simp)];exact hs f' a' h' n'
theorem RD{P:Program}{cf:fT}(hk:jq P cf){f:FuncId}{q:ag->Bool}{args:ag}{h:H lf}{n:Nat}{v:V}{N:H lf}{n1:Nat}(fI:f<P.funcs.size)
  (I:∀E w de,dL E args de->Good E h w->qH E n->Calls P f de.toArray w (jI E h n w (.ret v) N n1)):jq P (I3 cf f q args h n (v,N,n1)):=by
 intro f' a' h' n' aaS B n2 e E w de ra g hd;unfold I3 at e;split at e
 . rename_i hf;simp only[aC]at hf;have hf:=aD hf.1;subst hf;split at e
   . rename_i hq;obtain⟨rfl,rfl,rfl⟩:=hq;simp only[an,aB]at e;obtain⟨rfl,rfl,rfl⟩:=e;exact⟨fun _=>I E w de ra g hd,fun m l s hf _=>absurd fI (by rw[hf];exact Nat.not_lt.2 (Nat.le_add_right _ _))⟩
   . cases e
 . exact hk f' a' h' n' aaS B n2 e E w de ra g hd
noncomputable def CX.Le{P:Program}(fl:CX P)(q:ag->Bool){f:FuncId}{args:ag}{h:H lf}{n:Nat}{v:V}{N:H lf}{n1:Nat}(fI:f<P.funcs.size)
  (I:∀E w de,dL E args de->Good E h w->qH E n->Calls P f de.toArray w (jI E h n w (.ret v) N n1)):CX P:=
 ⟨Bp fl.C f q args h n (v,N,n1),I3 fl.cf f q args h n (v,N,n1),I4 fl.snd f q args h n (v,N,n1),RD fl.ok fI I⟩
def cW(P:Program)(f:FuncId)(args:ag)(h:H lf)(n:Nat)(v:V)(N:H lf)(n1:Nat):Prop:=∀E w de,dL E args de->Good E h w->qH E n->Calls P f de.toArray w (jI E h n w (.ret v) N n1)
theorem zq:∀(l:af) (t:H lf) (j:Nat) (o:lf),(∀p∈l,p.1<fP)->(J.go t l).get j=some o->t.get j=some o\/(j,o)∈l
 | [],t,j,o,_,h=>.inl h
 |(k,v)::l,t,j,o,hl,h=>by
  rcases zq l _ j o (fun q hq=>hl q (by simp[hq])) h with q|q
  . rw[H.eY _ _ _ (hl (k,v) (by simp))]at q;split at q
    . rename_i z;simp only[an]at q;subst z;subst q;exact .inr (by simp)
    . exact .inl q
  . exact .inr (by simp[q])
theorem AI{ns:List (Option Nat)}{h:H lf}{l:af}(hl:∀p∈l,p.1<fP)(N:∀p∈jU,ns.getD p.2 none=some p.2)(B:nG ns=true)
  (h3:∀j m,ns.getD j none=some m->(∃p∈jU,p.2=m)\/h.get m≠none) (h4:∀p∈l,∃m o,ns.getD p.1 none=some m/\h.get m=some o/\o.rn (mu ns)=some p.2):rY ns h (J l):=by
 refine⟨N,B,h3,fun j o1 hj=>?_⟩;rcases zq l .nil j o1 hl hj with q|q
 . simp[H.get]at q
 . exact h4 _ q
mutual
theorem Lf{μ ν:Nat->Option Nat}(Lg:∀m k,μ m=some k->ν k=some m):∀(v v2:V),v.rn μ=some v2->v2.rn ν=some v
 | .bool _,v2,h=>by simp only[V.rn,an]at h;subst h;rfl
 | .int _ _,v2,h=>by simp only[V.rn,an]at h;subst h;rfl
 | .str _,v2,h=>by simp only[V.rn,an]at h;subst h;rfl
 | .ptr none,v2,h=>by simp only[V.rn,an]at h;subst h;rfl
 | .ptr (some (m,o)),v2,h=>by
   simp only[V.rn]at h;split at h
   . rename_i k hk;obtain rfl:=ek h;simp only[V.rn,Lg m k hk]
   . cases h
 | .dj none _ _ _,v2,h=>by simp only[V.rn,an]at h;subst h;rfl
 | .dj (some (m,o)) _ _ _,v2,h=>by
   simp only[V.rn]at h;split at h
   . rename_i k hk;obtain rfl:=ek h;simp only[V.rn,Lg m k hk]
   . cases h
 | .map none,v2,h=>by simp only[V.rn,an]at h;subst h;rfl
 | .map (some m),v2,h=>by
   simp only[V.rn]at h;split at h
   . rename_i k hk;obtain rfl:=ek h;simp only[V.rn,Lg m k hk]
   . cases h
 | .fn f a c,v2,h=>by
   simp only[V.rn]at h;split at h
   . rename_i a2 ha;split at h
     . rename_i c2 I;have QK:=wM Lg a a2 ha;have rc2:=wM Lg c c2 I;split at h
       . rename_i m;split at h
         . rename_i k hk;obtain rfl:=ek h;simp only[V.rn,QK,rc2,Lg m k hk]
         . cases h
       . obtain rfl:=ek h;cases f<;>first|(simp only[V.rn,QK,rc2];done)|(rename_i fU;exact(fU _ rfl).elim)
     . cases h
   . cases h
 | .kB,v2,h=>by simp only[V.rn,an]at h;subst h;rfl
 | .iface t x,v2,h=>by
   simp only[V.rn]at h;split at h
   . rename_i x2 G;obtain rfl:=ek h;simp only[V.rn,Lf Lg x x2 G]
   . cases h
 | .nilIface,v2,h=>by simp only[V.rn,an]at h;subst h;rfl
 | .agg C,v2,h=>by
   simp only[V.rn]at h;split at h
   . rename_i x2 G;obtain rfl:=ek h;simp only[V.rn,wM Lg C x2 G]
   . cases h
 | .ew C,v2,h=>by
   simp only[V.rn]at h;split at h
   . rename_i x2 G;obtain rfl:=ek h;simp only[V.rn,wM Lg C x2 G]
   . cases h
 | .dS f n C,v2,h=>by simp only[V.rn,an]at h;subst h;rfl
 | .dx C,v2,h=>by simp only[V.rn,an]at h;subst h;rfl
theorem wM{μ ν:Nat->Option Nat}(Lg:∀m k,μ m=some k->ν k=some m):∀(v v2:ag),V.y9 μ v=some v2->V.y9 ν v2=some v
 | [],v2,h=>by simp only[V.y9,an]at h;subst h;rfl
 |x::xs,v2,h=>by
  simp only[V.y9]at h;split at h
  . rename_i x2 G;split at h
    . rename_i KI BD;obtain rfl:=ek h;simp only[V.y9,Lf Lg x x2 G,wM Lg xs KI BD]
    . cases h
  . cases h
end
def lf.Lh:lf->Bool
 | .map _ _=>false
 | .loop _ _ _ _ _ _=>false
 |_=>true
theorem Vi{μ ν:Nat->Option Nat}(Lg:∀m k,μ m=some k->ν k=some m):∀(o o2:lf),o2.Lh=true->o.rn μ=some o2->o2.rn ν=some o:=by
 intro o o2 hp h;cases o with
 |cells C=>
  simp only[lf.rn]at h;split at h
  . rename_i x2 G;obtain rfl:=ek h;simp only[lf.rn,wM Lg C x2 G]
  . cases h
 |map Q c=>
  simp only[lf.rn]at h;split at h
  . obtain rfl:=ek h;cases hp
  . cases h
 |AX t s x=>
  simp only[lf.rn]at h;split at h
  . rename_i x2 G;obtain rfl:=ek h;simp only[lf.rn,Lf Lg x x2 G]
  . cases h
 |loop st pe S ps a b=>
  simp only[lf.rn]at h;split at h
  . obtain rfl:=ek h;cases hp
  . cases h
 |_=>simp only[lf.rn,an]at h;subst h;rfl
theorem wN{ν:Nat->Option Nat}{ns:List (Option Nat)}{h0 N:H lf}(k0:rY ns h0 N)(hp:∀j o,N.get j=some o->o.Lh=true)(ht:∀j m,ns.getD j none=some m->m<fP)(hν:∀m k,mu ns m=some k->ν k=some m):
  ∀(i q:Nat) (h:H lf),(∀k,h.get k=h0.get k)->∃B,oC ν ns N N i q h=some B/\∀k,B.get k=h0.get k
 |0,q,h,hh=>⟨h,rfl,hh⟩
 |i+1,q,h,hh=>by
  simp only[oC];cases ho:N.get q with
  |none=>simp only;exact wN k0 hp ht hν i (q+1) h hh
  |some o0=>
   simp only;cases hw:o0.wr with
   |false=>simp only;exact wN k0 hp ht hν i (q+1) h hh
   |true=>
    obtain⟨m,o,p1,p2,p3⟩:=k0.get q o0 ho;have hb:Nat.blt m fP=true:=cH (ht q m p1);simp only[p1,hb,Vi hν o o0 (hp q o0 ho) p3];refine wN k0 hp ht hν i (q+1) _ fun k=>?_;rw[H.eY _ _ _ (ht q m p1)];split
    . rename_i z;subst z;exact p2.symm
    . exact hh k
theorem OD{P:Program}(W:P.follows .mixedOrders=true)(wZ:kW P=true){f:FuncId}{fn:Func}{code:Code}(hf:P.funcs[f]? =some fn)(hb:fn.body=some code){args ld:ag}{ns:List (Option Nat)}{h N:H lf}{n:Nat}{v:V}
  (l:(Nat.ble ld.length fn.ntmps&&Nat.blt fn.ntmps fP)=true) (k:rY ns h N) (hp:∀j o,N.get j=some o->o.Lh=true) (ht:∀j m,ns.getD j none=some m->m<fP) (ka:V.y9 (mu ns) args=some ld) (hv:∀ν,v.rn ν=some v)
  (hT:TG P ns.length fn.ntmps code (cU ld N ns.length) (fJ P ns.length fn fun a b c=>a=v/\b=N/\c=ns.length)):cW P f args h n v h n:=by
 intro E w de ra g hd;have hν:∀m k,mu ns m=some k->Rg ns N ns.length n k=some m:=by
  intro m k hk;have e:=MK hk;have fI:k<ns.length:=by
   rcases bK k ns.length with q|q
   . exact q
   . rw[aM,bN q]at e;cases e
  have hb:Nat.blt k ns.length=true:=cH fI;simp only[Rg,hb];exact e
 obtain⟨B,e2,G⟩:=wN k hp ht hν ns.length 0 h fun _=>rfl;have he:BK ns N (v,N,ns.length) h n=some (v,B,n):=by
  unfold BK;simp only[hv,e2,Nat.sub_self,IY,Nat.add_zero]
 refine(AF W wZ hf hb l k ka he hT ra g hd).mono fun en w' c=>?_;obtain⟨E',u,q1,q2,q3,q4⟩:=c;exact⟨E',u.ext fun k=>(G k).symm,q1,q2,q3,q4⟩
open Go.ChangeMaps (setBlock)
structure Li(φ:Nat->Option (Array Value))(kd:Option IntKind)(Q:ae)(w:World)(r b:Nat)(left:ae):Prop where
 ex:∃seen gj eD,w.heap[r]? =some (.mapIter (some b) eD seen eD)/\w.heap[b]? =some (.map gj eD)/\jX φ kd Q gj.toList eD/\∃l,List.Perm l left/\jW φ l (leftOf gj seen).toList
theorem Li.mono{φ Ms:Nat->Option (Array Value)}{kd:Option IntKind}{Q left:ae}{w w':World}{r b:Nat}(kR:∀b c,φ b=some c->Ms b=some c)(hr:w'.heap[r]? =w.heap[r]?)(hb:w'.heap[b]? =w.heap[b]?)(i:Li φ kd Q w r b left):Li Ms kd Q w' r b left:=by
 obtain⟨seen,gj,eD,N,B,h3,l,h4,h5⟩:=i.ex;exact⟨seen,gj,eD,hr.trans N,hb.trans B,h3.mono kR,l,h4,xH kR _ _ h5⟩
theorem Fq{φ:Nat->Option (Array Value)}:∀(a1:List MapEntry) {e:MapEntry} {a2:List MapEntry} {l:ae},jW φ l (a1++e::a2)->∃l1 c l2,l=l1++c::l2/\jW φ l1 a1/\lH φ c.1 e.key/\lH φ c.2 e.val/\jW φ l2 a2
 | [],e,a2,l,h=>by
   cases l with
   |nil=>have h:([]++e::a2:List MapEntry)=[]:=h;cases h
   |cons c l2=>
    obtain⟨y,ys,N,B,h3,h4⟩:=h;simp only[ck,List.cons.injEq]at h4;obtain⟨rfl,rfl⟩:=h4;exact⟨[],c,l2,rfl,rfl,N,B,h3⟩
 |x::a1,e,a2,l,h=>by
  cases l with
  |nil=>have h:(x::a1++e::a2:List MapEntry)=[]:=h;cases h
  |cons c0 l0=>
   obtain⟨y,ys,N,B,h3,h4⟩:=h;simp only[List.cons_append,List.cons.injEq]at h4;obtain⟨rfl,rfl⟩:=h4;obtain⟨l1,c,l2,rfl,k1,k2,k3,k4⟩:=Fq a1 h3;exact⟨c0::l1,c,l2,rfl,⟨_,_,N,B,k1,rfl⟩,k2,k3,k4⟩
theorem Fs{φ:Nat->Option (Array Value)}:∀{l1:ae} {a1:List MapEntry} {l2:ae} {a2:List MapEntry},jW φ l1 a1->jW φ l2 a2->jW φ (l1++l2) (a1++a2)
 | [],a1,l2,a2,N,B=>by have N:a1=[]:=N;subst N;exact B
 |c::l1,a1,l2,a2,N,B=>by
  obtain⟨y,ys,k1,k2,k3,rfl⟩:=N;exact⟨y,ys++a2,k1,k2,Fs k3 B,rfl⟩
theorem OE{φ:Nat->Option (Array Value)}{l:ae}(h:jW φ l []):l=[]:=by
 cases l with
 |nil=>rfl
 |cons c l=>obtain⟨_,_,_,_,_,h⟩:=h;cases h
section
variable(Q:Array MapEntry)(seen:Array Nat)
theorem pb:(leftOf Q seen).toList=Q.toList.filter fun e=>!seen.contains e.born:=by
 simp[leftOf]
theorem I5(b:Nat):(leftOf Q (seen.push b)).toList=(leftOf Q seen).toList.filter fun e=>!(e.born==b):=by
 rw[pb,pb,List.filter_filter];congr 1;funext e;have:(e.born==b)=decide (e.born=b):=rfl;rw[this];simp[Bool.and_comm]
end
theorem Vj{P:Program}{φ:Nat->Option (Array Value)}{kd:Option IntKind}{Q left:ae}{w:World}{r b:Nat}(hrb:r≠b)(i:Li φ kd Q w r b left)(ty:TypeId):
  (left=[]/\(Instr.next (.pointer (some ⟨r,0,none⟩)) false ty).run P w= .ok (.tuple #[.bool false]) w) \/
  ∃c kD k v w',List.Perm left (c::kD)/\lH φ c.1 k/\lH φ c.2 v/\(Instr.next (.pointer (some ⟨r,0,none⟩)) false ty).run P w= .ok (.tuple #[.bool true,k,v]) w'/\
   (∀w2:World,w2.heap[r]? =w'.heap[r]?->w2.heap[b]? =w'.heap[b]?->(Instr.entry (.pointer (some ⟨r,0,none⟩))).run P w2= .ok (.tuple #[k,v]) w2)/\Li φ kd Q w' r b kD/\w'.heap.size=w.heap.size/\w'.tape=w.tape/\w'.os=w.os/\w'.output=w.output/\∀x,x≠r->w'.heap[x]? =w.heap[x]?:=by
 obtain⟨seen,gj,eD,hr,hb,hM,l,hl,W⟩:=i.ex;rcases run_next_at (P:=P) w ty r b eD eD seen gj eD hr hb (fun x G=>hM.old x G) (aA _)with⟨h0,fS⟩|⟨e,he,w1,HE,fS⟩
 . left;have:(leftOf gj seen).toList=[]:=by rw[<- Array.length_toList]at h0;exact List.eq_nil_of_length_eq_zero h0
   rw[this]at W;have:=OE W;subst this;exact⟨hl.symm.eq_nil,fS⟩
 . right;obtain⟨a1,a2,ha⟩:=List.append_of_mem he;have Kt:((leftOf gj seen).toList.map (·.born)).Nodup:=by
    rw[pb];exact hM.born.sublist (List.filter_sublist.map _)
   rw[ha]at W;obtain⟨l1,c,l2,rfl,k1,k2,k3,k4⟩:=Fq a1 W;have aaT:w1.heap=w.heap:=by rcases HE with rfl|rfl<;>rfl
   have aaU:w1.tape=w.tape/\w1.os=w.os/\w1.output=w.output:=by rcases HE with rfl|rfl<;>exact⟨rfl,rfl,rfl⟩
   have al7:r<w.heap.size:=(aQ.1 hr).1;have tu:(setBlock w1 r (.mapIter (some b) eD (seen.push e.born) eD)).heap[r]? =some (.mapIter (some b) eD (seen.push e.born) eD):=by
    simp[setBlock,aaT,al7]
   have ae0:∀x,x≠r->(setBlock w1 r (.mapIter (some b) eD (seen.push e.born) eD)).heap[x]? =w.heap[x]?:=by
    intro x G;simp only[setBlock,aaT];rw[Array.getElem?_setIfInBounds_ne (Ne.symm G)]
   have hbb:=(ae0 b (Ne.symm hrb)).trans hb;refine⟨c,l1++l2,e.key,e.val,_,?_,k2,k3,fS,?_,⟨seen.push e.born,gj,eD,tu,hbb,hM,l1++l2,.refl _,?_⟩,by simp[setBlock,aaT],aaU.1,aaU.2.1,aaU.2.2,ae0⟩
   . exact hl.symm.trans List.perm_middle
   . have al8:e∈gj.toList:=by
      rw[pb]at he;exact(List.mem_filter.1 he).1
     exact fun w2 g1 g2=>run_entry_at w2 r b eD seen gj eD e (g1.trans tu) (g2.trans hbb) al8 hM.born
   . rw[I5,ha];rw[ha,aY,bY]at Kt;have ae1:=List.nodup_append.1 Kt;have f1:a1.filter (fun x=>!(x.born==e.born))=a1:=by
      rw[List.filter_eq_self];intro x G;have:x.born≠e.born:=fun q=>ae1.2.2 x.born (bA.2 ⟨x,G,rfl⟩) e.born (by simp) q;simp[this]
     have f2:a2.filter (fun x=>!(x.born==e.born))=a2:=by
      rw[List.filter_eq_self];intro x G;have h3:=(cj.1 ae1.2.1).1;have:x.born≠e.born:=fun q=>h3 (by rw[<- q];exact bA.2 ⟨x,G,rfl⟩);simp[this]
     rw[List.filter_append,f1,List.filter_cons];simp only[cr,Bool.not_true,aO,cI,f2];exact Fs k1 k4
section
variable{P:Program}{rt:Fence}{n:Nat}{ops:Array Oper}{es:Exit->Act->World->Prop}{a:Act}{w:World}{rest:List Oper}{o:Oper}
theorem OF{t k e:TypeId}{x:Operand}{b:Nat}{Q:Array MapEntry}{eD:Nat}(hg:o.guard=none)(pM:o.op= .range t x)(hu:P.underlying t=some (.map k e))(G:a.eval x= .map (some b))(hb:w.heap[b]? =some (.map Q eD))
  (hK:wpListIn rt n P ops es rest (a.put o.dst (.pointer (some ⟨w.heap.size,0,none⟩))) (w.alloc (.mapIter (some b) eD #[] eD))):wpListIn rt n P ops es (o::rest) a w:=by
 refine wpListIn_plain hg fun K' Vk=>?_;have fS:=run_range_map (P:=P) w t k e b Q eD hu hb;unfold Oper.wpIn;refine⟨by simp[Oper.about,pM],?_⟩;rw[lI (by rw[pM];intro c wz;cases wz)];simp[execOp,pM,G,fS,Result.andThen];exact Vk _ _ hK
theorem I6{x:Operand}{r:Nat}{v:Value}{w':World}(hg:o.guard=none)(pM:o.op= .next x false)(G:a.eval x= .pointer (some ⟨r,0,none⟩))(fS:(Instr.next (.pointer (some ⟨r,0,none⟩)) false o.type).run P w= .ok v w')
  (hK:wpListIn rt n P ops es rest (a.put o.dst v) w'):wpListIn rt n P ops es (o::rest) a w:=by
 refine wpListIn_plain hg fun K' Vk=>?_;unfold Oper.wpIn;refine⟨by simp[Oper.about,pM],?_⟩;rw[lI (by rw[pM];intro c wz;cases wz)];simp[execOp,pM,G,fS,Result.andThen];exact Vk _ _ hK
theorem OG{x:Operand}{r:Nat}{v:Value}(hg:o.guard=none)(pM:o.op= .entry x)(G:a.eval x= .pointer (some ⟨r,0,none⟩))(fS:(Instr.entry (.pointer (some ⟨r,0,none⟩))).run P w= .ok v w)
  (hK:wpListIn rt n P ops es rest (a.put o.dst v) w):wpListIn rt n P ops es (o::rest) a w:=by
 refine wpListIn_plain hg fun K' Vk=>?_;unfold Oper.wpIn;refine⟨by simp[Oper.about,pM],?_⟩;rw[lI (by rw[pM];intro c wz;cases wz)];simp[execOp,pM,G,fS,Result.andThen];exact Vk _ _ hK
end
theorem iG.iter{E:Env}{h:H lf}{w:World}{n m:Nat}{ob:Obj}(g:Good E h w)(hn:E.ι n=none)(y8:m<fP):iG E h w (E.put n w.heap.size 0 0) (h.set m none) (w.alloc ob):=by
 have u7:∀m b s,E.ι m=some (b,s)->b≠w.heap.size:=fun m b s e hb=>by have:=g.mK m b s e;omega
 have ku:E.le (E.put n w.heap.size 0 0):=Env.rT hn fun m x t e G=>absurd G (u7 m x t e);have BP:∀b c,E.φ b=some c->b<w.heap.size:=fun b c q=>by
  obtain⟨⟨el,fz,e⟩,_⟩:=g.gQ b c q;exact(aQ.1 e).1
 have hs:∀k o,(h.set m none).get k=some o->h.get k=some o:=by
  intro k o hk;rw[H.eY _ _ _ y8]at hk;split at hk
  . cases hk
  . exact hk
 have fU:∀k,(h.set m none).get k≠none->k≠n:=by
  rintro k hk rfl;obtain⟨o,ho⟩:=bh.1 hk;obtain⟨b,s,e,_⟩:=g.rel k o (hs k o ho);rw[hn]at e;cases e
 refine⟨ku,⟨fun k o hk=>?_,fun k k' b s s' EU hk uH e e'=>?_,fun k b s e=>?_,g.jh.mono ku,fun b c q=>⟨by rw[jN (BP b c q)];exact(g.gQ b c q).1,fun k s hk e=>?_⟩⟩,by simp,rfl,rfl,rfl,fun b hb _=>jN hb,fun k b s hk e hb=>?_,fun _ _ q=>.inl q⟩
 . obtain⟨b,s,N,B⟩:=g.rel k o (hs k o hk);exact⟨b,s,by rw[Env.fF (fU k (by rw[hk];simp))];exact N,gU ku (ku.nm k b s N).2 (jN (g.mK k b s N)) B⟩
 . rw[Env.fF (fU k hk.live)]at e;rw[Env.fF (fU k' uH)]at e';exact g.inj k k' b s s' EU (gz hs hk) (nu hs uH) e e'
 . by_cases a:k=n
   . subst a;rw[Env.ff]at e;cases e;simp
   . rw[Env.fF a]at e;have:=g.mK k b s e;simp;omega
 . rw[Env.fF (fU k hk.live)]at e;exact(g.gQ b c q).2 k s (gz hs hk) e
 . rw[Env.fF (fU k hk)]at e;exact⟨k,s,nu hs hk,e,gz hs⟩
theorem lM.weaken{M n1:Nat}(hn:M<=n1){E E':Env}{h h':H lf}{w w':World}(u:lM n1 E h w E' h' w'):lM M E h w E' h' w':=
 ⟨fun m b s W=>u.le m b s K,fun m W=>u.low m K,u.fz,u.good,u.size,u.tape,u.os,u.output,u.keep,u.s9,u.Ea⟩
structure xw(M:Nat)(E0:Env)(h0:H lf)(w0:World)(m mi:Nat)(kd:Option IntKind)(Q left:ae)(r b:Nat)(E:Env)(h:H lf)(w:World):Prop where
 qG:lM M E0 h0 w0 E h w
 it:Li E.φ kd Q w r b left
 em:E.ι m=some (b,0)
 ei:E.ι mi=some (r,0)
 hr:∀k z,h.get k≠none->E.ι k≠some (r,z)
 hb:∀k z,h.get k≠none->E.ι k≠some (b,z)
 rlt:r<w.heap.size
 blt:b<w.heap.size
 r0:w0.heap.size<=r
 ne:r≠b
theorem xw.step{M n1:Nat}{E0:Env}{h0:H lf}{w0:World}{m mi:Nat}{kd:Option IntKind}{Q left:ae}{r b:Nat}{E E':Env}{h h':H lf}{w w':World}(hn:M<=n1)(W:m<n1)(hi:mi<n1)(c:xw M E0 h0 w0 m mi kd Q left r b E h w)
  (u:lM n1 E h w E' h' w'):xw M E0 h0 w0 m mi kd Q left r b E' h' w' where
 qG:=c.qG.trans (u.weaken hn)
 it:=c.it.mono u.fz (u.keep r c.rlt fun k z hk=>c.hr k z hk.live) (u.keep b c.blt fun k z hk=>c.hb k z hk.live)
 em:=(u.low m W).trans c.em
 ei:=(u.low mi hi).trans c.ei
 hr:=fun k z hk e=>by
  obtain⟨m0,s0,q1,q2,_⟩:=u.s9 k r z hk e c.rlt;exact c.hr m0 s0 q1 q2
 hb:=fun k z hk e=>by
  obtain⟨m0,s0,q1,q2,_⟩:=u.s9 k b z hk e c.blt;exact c.hb m0 s0 q1 q2
 rlt:=bF c.rlt u.size
 blt:=bF c.blt u.size
 r0:=c.r0
 ne:=c.ne
theorem xw.ae2{M:Nat}{E0:Env}{h0:H lf}{w0:World}{m mi:Nat}{kd:Option IntKind}{Q left kD:ae}{r b:Nat}{E:Env}{h:H lf}{w w':World}(c:xw M E0 h0 w0 m mi kd Q left r b E h w)(i:Li E.φ kd Q w' r b kD)
  (N:w'.heap.size=w.heap.size) (B:w'.tape=w.tape) (h3:w'.os=w.os) (h4:w'.output=w.output) (h5:∀x,x≠r->w'.heap[x]? =w.heap[x]?):xw M E0 h0 w0 m mi kd Q kD r b E h w':=by
 have fU:∀k b' z,h.get k≠none->E.ι k=some (b',z)->b'≠r:=fun k b' z hk e q=>c.hr k z hk (q▸e);have g:=c.qG.good;have yp:∀b' cc,E.φ b'=some cc->b'≠r:=by
  rintro b' cc q rfl;obtain⟨⟨el,fz,e⟩,_⟩:=g.gQ _ cc q;obtain⟨seen,gj,eD,k1,_⟩:=c.it.ex;rw[k1]at e;cases e
 refine⟨⟨c.qG.le,c.qG.low,c.qG.fz,⟨fun k o hk=>?_,g.inj,fun k b' z e=>by rw[N];exact g.mK k b' z e,g.jh,fun b' cc q=>⟨by rw[h5 b' (yp b' cc q)];exact(g.gQ b' cc q).1,(g.gQ b' cc q).2⟩⟩,by rw[N];exact c.qG.size,B.trans c.qG.tape,h3.trans c.qG.os,h4.trans c.qG.output,fun x G sB=>?_,c.qG.s9,c.qG.Ea⟩,i,c.em,c.ei,c.hr,c.hb,by rw[N];exact c.rlt,by rw[N];exact c.blt,c.r0,c.ne⟩
 . obtain⟨b',z,e,q⟩:=g.rel k o hk;exact⟨b',z,e,gU E.le_refl rfl (h5 b' (fU k b' z (by rw[hk];simp) e)) q⟩
 . rw[h5 x (by have:=c.r0;omega)];exact c.qG.keep x G sB
def OH(m:Nat)(kd:Option IntKind)(Q:ae)(s:St):St:={ s with h:=s.h.set m (some (.dI kd Q)) }
theorem xw.back{M:Nat}{E0:Env}{h0:H lf}{w0:World}{m mi:Nat}{kd:Option IntKind}{Q left:ae}{r b:Nat}{E:Env}{h:H lf}{w:World}(c:xw M E0 h0 w0 m mi kd Q left r b E h w)(hm0:eE h0 m)(he0:E0.ι m=some (b,0))(y8:m<fP):
  lM M E0 h0 w0 E (h.set m (some (.dI kd Q))) w:=by
 have g:=c.qG.good;obtain⟨seen,gj,eD,k1,k2,k3,_⟩:=c.it.ex;have kL:∀k,(h.set m (some (lf.dI kd Q))).get k=if k=m then some (.dI kd Q)else h.get k:=fun k=>H.eY _ _ _ y8
 have uz:∀k,k≠m->eE (h.set m (some (lf.dI kd Q))) k->eE h k:=fun k hk ⟨o,q1,q2⟩=>⟨o,by rw[kL,aI hk]at q1;exact q1,q2⟩;have yp:∀b' cc,E.φ b'=some cc->b'≠b:=by
  rintro b' cc q rfl;obtain⟨⟨el,fz,e⟩,_⟩:=g.gQ _ cc q;rw[k2]at e;cases e
 refine⟨c.qG.le,c.qG.low,c.qG.fz,⟨fun k o hk=>?_,fun k k' b' z z' EU hk uH e e'=>?_,g.mK,g.jh,fun b' cc q=>⟨(g.gQ b' cc q).1,fun k z hk e=>?_⟩⟩,c.qG.size,c.qG.tape,c.qG.os,c.qG.output,c.qG.keep,fun k b' z hk e Gq=>?_,c.qG.Ea⟩
 . rw[kL]at hk;split at hk
   . rename_i q;subst q;cases hk;exact⟨b,0,c.em,rfl,gj,eD,k2,k3⟩
   . exact g.rel k o hk
 . by_cases q:k=m
   . subst q;rw[c.em]at e;cases e;have uH:h.get k'≠none:=by rw[kL,aI (Ne.symm EU)]at uH;exact uH
     exact c.hb k' z' uH e'
   . by_cases q':k'=m
     . subst q';rw[c.em]at e';cases e';exact c.hb k z (uz k q hk).live e
     . exact g.inj k k' b' z z' EU (uz k q hk) (by rw[kL,aI q']at uH;exact uH) e e'
 . by_cases q':k=m
   . subst q';rw[c.em]at e;cases e;exact yp _ cc q rfl
   . exact(g.gQ b' cc q).2 k z (uz k q' hk) e
 . by_cases q':k=m
   . subst q';rw[c.em]at e;cases e;exact⟨k,0,hm0.live,he0,fun _=>hm0⟩
   . obtain⟨m0,s0,p1,p2,p3⟩:=c.qG.s9 k b' z (by rw[kL,aI q']at hk;exact hk) e Gq;exact⟨m0,s0,p1,p2,fun x=>p3 (uz k q' x)⟩
def Vl:fT:=fun _ _ _ _=>none
theorem GV(P:Program):jq P Vl:=fun _ _ _ _ _ _ _ e=>by cases e
structure rM where
 g0:Nat
 g1:Nat
 g2:Nat
 o0:Oper
 oR:Oper
 oN:Oper
 oX:Oper
 oE:Oper
 post:List Oper
 bl:Nat
 b1:Nat
 tok:Operand
 rest:Code
def rM.code(m:rM):Code:=.seq (.region m.g0 #[m.o0,m.oR] false) (.block m.bl (.loop (.seq (.region m.g1 #[m.oN,m.oX] false) (.seq (.cond m.tok .skip (.exit m.bl)) (.block m.b1 (.seq (.region m.g2 (m.oE::m.post).toArray false) m.rest))))))
structure sM(P:Program)(h1:Nat)(c:rM)(xR:Operand)(tI:Nat):Prop where
 g0:c.o0.guard=none
 gR:c.oR.guard=none
 gN:c.oN.guard=none
 gE:c.oE.guard=none
 opR:∃ty k e,c.oR.op= .range ty xR/\P.underlying ty=some (.map k e)
 dR:c.oR.dst=some tI
 opN:c.oN.op= .next (.tmp tI) false
 opE:c.oE.op= .entry (.tmp tI)
 ok:fc h1 c.code=true
 tI:tI<fP
def Lj(M h1:Nat)(s fr:St):Prop:=∀E a w,kf E h1 s a w->M<=s.n->M<=fr.n/\∃E2,kf E2 h1 fr a w/\lM M E s.h w E2 fr.h w
theorem Lj.norm{M h1:Nat}{aa:List Nat}{s fr:St}(e:fa M aa s=some fr):Lj M h1 s fr:=fun _ _ _ r _=>(rK e r).2
theorem Lj.trans{M h1:Nat}{a b c:St}(N:Lj M h1 a b)(B:Lj M h1 b c):Lj M h1 a c:=fun E x w r hn=>by
 obtain⟨xK,E2,r2,u2⟩:=N E x w r hn;obtain⟨KE,E3,r3,u3⟩:=B E2 x w r2 xK;exact⟨KE,E3,r3,u2.trans u3⟩
theorem Lj.mem{M h1:Nat}{s:St}{B:H lf}(hg:∀E w,Good E s.h w->Good E B w/\∀m,(B.get m≠none↔s.h.get m≠none)/\(eE B m->eE s.h m)):Lj M h1 s { s with h:=B }:=fun E a w r hn=>by
 obtain⟨g2,k2⟩:=hg E w r.good;exact⟨hn,E,⟨g2,r.oz,r.S,r.size,r.gG⟩,⟨fun _ _ _ _ e=>⟨e,rfl⟩,fun _ _=>rfl,fun _ _ q=>q,g2,aA _,rfl,rfl,rfl,fun _ _ _=>rfl,fun m b s1 W e1 _=>⟨m,s1,(k2 m).1.1 W,e1,(k2 m).2⟩,fun _ _ q=>.inl q⟩⟩
theorem Lj.deep{M h1:Nat}{s fr:St}(l:List Nat)(e:Dh l s=some fr):Lj M h1 s fr:=by
 unfold Dh at e;split at e
 case h_2=>cases e
 rename_i B hh;obtain rfl:=ek e;exact Lj.mem fun E w g=>qV l s.h B hh g
theorem I7{P:Program}{M h1:Nat}{c:rM}{s:St}{es:Exit->St->Prop}{xR:Operand}{tI m:Nat}{kd:Option IntKind}{Q:ae}{v0:V}{kA Aa:H V}(W:P.follows .mixedOrders=true)(I:sM P h1 c xR tI)
  (h0:dJ P c.o0 s.S s.h s.n=some (.val v0 s.h s.n)) (hp0:jg s.S c.o0.dst v0=some kA) (G:iY kA xR=some (.map (some m))) (UC:s.h.get m=some (.dI kd Q)) (y8:m<fP) (hp1:jg kA c.oR.dst (.ptr (some (s.n,0)))=some Aa)
  (hL:ae->St->Prop) (N:hL [] { S:=Aa,h:=s.h.set m none,n:=s.n+1,gG:=s.gG })
  (Ll:∀iO left s1,hL iO s1->List.Perm (iO++left) Q->∃fr,Lj (s.n+1) h1 s1 fr/\fr.S.get tI=some (.ptr (some (s.n,0)))/\
   (left=[]->∃xU sD,jg fr.S c.oN.dst (.ew [.bool false])=some xU/\jl P Vl #[c.oN,c.oX] [c.oX] { fr with S:=xU }=some (.normal,sD)/\iY sD.S c.tok=some (.bool false)/\es .normal (OH m kd Q sD))/\
   (∀e kD,List.Perm left (e::kD)->∃xU s2 Ym s4,jg fr.S c.oN.dst (.ew [.bool true,e.1.iZ,e.2.iZ])=some xU/\jl P Vl #[c.oN,c.oX] [c.oX] { fr with S:=xU }=some (.normal,s2)/\iY s2.S c.tok=some (.bool true)/\s2.S.get tI=some (.ptr (some (s.n,0)))/\s2.h=fr.h/\s2.n=fr.n/\
    jg s2.S c.oE.dst (.ew [e.1.iZ,e.2.iZ])=some Ym/\jl P Vl (c.oE::c.post).toArray c.post { s2 with S:=Ym }=some (.normal,s4)/\
    TG P (s.n+1) h1 c.rest s4 (mY c.b1 (andThen (hL (iO++[e])) (mY c.bl fun y s'=>es y (OH m kd Q s')))))):TG P M h1 c.code s es:=by
 intro E a w be r hn k;have iy:=I.ok;unfold rM.code at iy;simp only[fc,aC]at iy;obtain⟨⟨hA,_⟩,⟨hB,_⟩,_,⟨hC,_⟩,atV⟩:=iy;have uB:∀{o:Oper},(match o.dst with|some d=>decide (d<h1)|none=>true)=true->nD h1 o.dst:=by
  intro o h d hd;rw[hd]at h;exact aE h
 have hd0:nD h1 c.o0.dst:=uB (bt.1 hA c.o0 (by simp));have hdR:nD h1 c.oR.dst:=uB (bt.1 hA c.oR (by simp));have hdN:nD h1 c.oN.dst:=uB (bt.1 hB c.oN (by simp));have hdX:nD h1 c.oX.dst:=uB (bt.1 hB c.oX (by simp));have ama:nD h1 c.oE.dst:=uB (bt.1 hC c.oE (by simp));have hdP:∀o∈c.post,nD h1 o.dst:=fun o ho=>uB (bt.1 hC o (by simp[ho]));have sz:∀{E:Env} {s:St} {a:Act} {w:World} {o:Oper},kf E h1 s a w->nD h1 o.dst->nD a.tmps.size o.dst:=by
  intro E s a w o r h;rw[r.size];exact h
 obtain⟨ty,kt,et,amb,hu⟩:=I.opR;unfold rM.code;refine wp_seq ((wpIn_wide (n:=0)).1 (wpIn_region_list (F:=fz none) ?_));show wpListIn (fz none) 0 P _ _ [c.o0,c.oR] a w;refine wpListIn_plain I.g0 fun K' Vk=>?_;refine CG r.good (r.oz _ (aA _)) (fun y _=>iS r.good.jh r.S y) h0 fun E1 w1 v1 q1 q2 q3 q4=>Vk _ _ ?_
 obtain rfl:E1=E:=by rcases q4 with⟨_,h⟩|h
                     . exact h
                     . omega
 have rf:yX E1 kA (a.put c.o0.dst v1):=jH r.S hp0 q1 (sz r hd0);obtain⟨b,e1,hxv⟩:∃b,E1.ι m=some (b,0)/\(a.put c.o0.dst v1).eval xR= .map (some b):=by
  have:=iS q2.good.jh rf xR _ G;obtain⟨b,N,B⟩:=this;exact⟨b,N,B⟩
 obtain⟨b',z',e2,hz,gj,eD,hb,hM⟩:=q2.good.rel m _ UC;rw[e1]at e2;simp only[an,aB]at e2;obtain⟨rfl,_⟩:=e2;refine OF I.gR amb hu hxv hb ?_;have u0:iG E1 s.h w E1 s.h w1:=q2;have ae3:E1.ι s.n=none:=r.oz _ (aA _);have uI:=iG.iter (ob:=.mapIter (some b) eD #[] eD) q2.good ae3 y8;have u1:=u0.trans uI;have P6:m<s.n:=by
  rcases bK m s.n with q|q
  . exact q
  . have:=r.oz m q;rw[e1]at this;cases this
 have amc:b<w1.heap.size:=q2.good.mK m b 0 e1;have Ff:∀k,k<s.n->(E1.put s.n w1.heap.size 0 0).ι k=E1.ι k:=fun k hk=>Env.fF K;have amd:xw M E1 s.h w m s.n kd Q Q w1.heap.size b (E1.put s.n w1.heap.size 0 0) (s.h.set m none) (w1.alloc (.mapIter (some b) eD #[] eD)):=by
  have hkn:∀k,(s.h.set m none).get k≠none->s.h.get k≠none/\k≠m:=by
   intro k hk;rw[H.eY _ _ _ y8]at hk;split at hk
   . exact absurd rfl hk
   . rename_i z;exact⟨hk,z⟩
  have ae4:∀k z b',s.h.get k≠none->(E1.put s.n w1.heap.size 0 0).ι k=some (b',z)->E1.ι k=some (b',z):=by
   intro k z b' hk e;by_cases q:k=s.n
   . subst q;obtain⟨o,ho⟩:=bh.1 hk;obtain⟨b2,z2,e2,_⟩:=r.good.rel _ o ho;rw[ae3]at e2;cases e2
   . rwa [Env.fF q]at e
  refine⟨.of u1 Ff hn,⟨⟨#[],gj,eD,heap_alloc_new,by rw[jN amc];exact hb,hM,?_⟩⟩,by rw[Ff m P6];exact e1,Env.ff,fun k z hk e=>?_,fun k z hk e=>?_,by simp,by simp;omega,u0.size,K⟩
  . obtain⟨l,p1,p2⟩:=hM.row;refine⟨l,p1,?_⟩;have:(leftOf gj #[]).toList=gj.toList:=by rw[pb];simp
    rw[this];exact p2
  . have:=q2.good.mK k _ _ (ae4 k z _ (hkn k hk).1 e);omega
  . obtain⟨k1,k2⟩:=hkn k hk;exact q2.good.inj m k b 0 z (Ne.symm k2) ⟨_,UC,rfl⟩ k1 e1 (ae4 k z _ k1 e)
 have Rh:eE s.h m:=⟨_,UC,rfl⟩;have r1:kf (E1.put s.n w1.heap.size 0 0) h1 { S:=Aa,h:=s.h.set m none,n:=s.n+1,gG:=s.gG } ((a.put c.o0.dst v1).put c.oR.dst (.pointer (some ⟨w1.heap.size,0,none⟩))) (w1.alloc (.mapIter (some b) eD #[] eD)):=by
  refine⟨uI.good,fun k hk=>?_,jH (j9 uI.le rf) hp1 ⟨w1.heap.size,0,Env.ff,rfl⟩ (by rw[iR,r.size];exact hdR),by rw[iR,iR];exact r.size,by rw[gH,gH];exact je uI.le _ _ r.gG⟩;have hk:s.n+1<=k:=hk;rw[Env.fF K];exact r.oz k (by show s.n<=k;omega)
 show(Code.block _ _).wp P be _ _;refine wp_block (wp_loop_rounds (Q.length+1) ?_);have key:∀(nn:Nat) (iO left:ae) (s1:St) (E:Env) (a:Act) (w2:World),left.length<nn->List.Perm (iO++left) Q->hL iO s1->s.n+1<=s1.n->kf E h1 s1 a w2->xw M E1 s.h w m s.n kd Q left w1.heap.size b E s1.h w2->
  Code.rounds P (.seq (.region c.g1 #[c.oN,c.oX] false) (.seq (.cond c.tok .skip (.exit c.bl)) (.block c.b1 (.seq (.region c.g2 (c.oE::c.post).toArray false) c.rest)))) (Exit.inBlock c.bl be) nn a w2:=by
  intro nn
  induction nn with
  |zero=>intro iO left s1 E a w2 hl;omega
  |succ nn ih=>
   intro iO left s1 E a w2 hl Ft hJ Eb r1 cx;rw[rounds_succ];obtain⟨fr,hS,yp,ae5,I8⟩:=Ll iO left s1 hJ Ft;obtain⟨xK,E2,r2,u2⟩:=hS _ _ _ r1 Eb;have cx:=cx.step (n1:=s.n+1) K K K u2;have hev:∀{E:Env} {fr:St} {a:Act} {w:World},kf E h1 fr a w->E.ι s.n=some (w1.heap.size,0)->fr.S.get tI=some (.ptr (some (s.n,0)))->a.eval (.tmp tI)= .pointer (some ⟨w1.heap.size,0,none⟩):=by
    intro E fr a w r e hf;obtain⟨x',g1,b',z',g2,g3⟩:=r.S tI _ hf;rw[e]at g2;simp only[an,aB]at g2;obtain⟨rfl,rfl⟩:=g2;simp only[Act.eval,cg,g1,Option.getD_some];exact g3
   refine wp_seq ((wpIn_wide (n:=0)).1 (wpIn_region_list (F:=fz none) ?_));show wpListIn (fz none) 0 P _ _ [c.oN,c.oX] a w2;rcases Vj (P:=P) cx.ne cx.it c.oN.type with⟨wj,fS⟩|⟨e,kD,kk,vv,w3,hp,hk,hv,fS,w7,it',z1,z2,z3,z4,z5⟩
   . obtain⟨xU,sD,p1,p2,p3,p4⟩:=ae5 wj;refine I6 I.gN I.opN (hev r2 cx.ei yp) fS ?_;have r3:kf E2 h1 { fr with S:=xU } (a.put c.oN.dst (.tuple #[.bool false])) w2:=⟨r2.good,r2.oz,jH r2.S p1 ⟨[.bool false],⟨_,[],rfl,rfl,rfl⟩,rfl⟩ (sz r2 hdN),by rw[iR];exact r2.size,by rw[gH];exact r2.gG⟩;refine kQ (vi:=none) (GV P) [c.oX] _ .normal sD (.inl rfl) (fun o ho=>by rw[aq]at ho;subst ho;exact hdX) p2 E2 _ w2 _ r3 ?_;intro E' a' w' x' u fQ pV r' td;cases x'<;>first|exact td.elim|skip
     have KE:s.n+1<=sD.n:=bX xK pV;have cx2:=cx.step (n1:=s.n+1) K K K (lM.of u fQ xK);show(Code.seq (.cond c.tok .skip (.exit c.bl)) _).wp P _ a' w';refine wp_seq (wp_cond_false (oW r'.good.jh r'.S p3) (wp_exit ?_));show Exit.inBlock c.bl be (.exit c.bl) a' w';simp only[Exit.inBlock,if_true];have ub:=cx2.back Rh e1 y8;exact k .normal _ E' a' w' p4 ub (by show M<=sD.n;omega) ⟨ub.good,r'.oz,r'.S,r'.size,r'.gG⟩
   . obtain⟨xU,s2,Ym,s4,p1,p2,p3,p4,p5,p6,p7,p8,hT⟩:=I8 e kD hp;refine I6 I.gN I.opN (hev r2 cx.ei yp) fS ?_;have cx1:=cx.ae2 it' z1 z2 z3 z4 z5;have r3:kf E2 h1 { fr with S:=xU } (a.put c.oN.dst (.tuple #[.bool true,kk,vv])) w3:=
      ⟨cx1.qG.good,r2.oz,jH r2.S p1 ⟨[.bool true,kk,vv],⟨_,_,rfl,⟨_,_,my _ _ hk,⟨_,[],my _ _ hv,rfl,rfl⟩,rfl⟩,rfl⟩,rfl⟩ (sz r2 hdN),by rw[iR];exact r2.size,by rw[gH];exact r2.gG⟩
     refine kQ (vi:=none) (GV P) [c.oX] _ .normal s2 (.inl rfl) (fun o ho=>by rw[aq]at ho;subst ho;exact hdX) p2 E2 _ w3 _ r3 ?_;intro E3 a3 w4 x' u fQ pV r4 td;cases x'<;>first|exact td.elim|skip
     have cx3:=cx1.step (n1:=s.n+1) K K K (lM.of u fQ xK);show(Code.seq (.cond c.tok .skip (.exit c.bl)) _).wp P _ a3 w4;refine wp_seq (wp_cond_true (oW r4.good.jh r4.S p3) (wp_skip ?_));show(Code.block c.b1 _).wp P _ a3 w4;refine wp_block (wp_seq ((wpIn_wide (n:=0)).1 (wpIn_region_list (F:=fz none) ?_)));have hh:w4.heap[w1.heap.size]? =w3.heap[w1.heap.size]?/\w4.heap[b]? =w3.heap[b]?:=
      ⟨u.keep _ cx1.rlt fun k z hk=>cx1.hr k z hk.live,u.keep _ cx1.blt fun k z hk=>cx1.hb k z hk.live⟩
     show wpListIn (fz none) 0 P _ _ (c.oE::c.post) a3 w4;refine OG I.gE I.opE (hev r4 cx3.ei p4) (w7 w4 hh.1 hh.2) ?_;have r5:kf E3 h1 { s2 with S:=Ym } (a3.put c.oE.dst (.tuple #[kk,vv])) w4:=
      ⟨r4.good,r4.oz,jH r4.S p7 ⟨[kk,vv],⟨_,_,my _ _ (kO u.le.fz _ _ hk),⟨_,[],my _ _ (kO u.le.fz _ _ hv),rfl,rfl⟩,rfl⟩,rfl⟩ (sz r4 ama),by rw[iR];exact r4.size,by rw[gH];exact r4.gG⟩
     refine kQ (vi:=none) (GV P) c.post _ .normal s4 (.inl rfl) hdP p8 E3 _ w4 _ r5 ?_;intro E4 a4 w5 x' u4 ae6 hn4 r6 td;cases x'<;>first|exact td.elim|skip
     have KE:s.n+1<=s2.n:=by rw[p6];exact xK
     have cx4:=cx3.step (n1:=s.n+1) K K K (lM.of u4 ae6 KE);have hn5:s.n+1<=s4.n:=bX KE hn4;show c.rest.wp P _ a4 w5;refine hT E4 a4 w5 _ r6 hn5 fun y s' E' a' w' q u' pV r'=>?_;have cx5:=cx4.step (n1:=s.n+1) K K K u';have ub:=cx5.back Rh e1 y8;have uA:hL (iO++[e]) s'->Code.rounds P (.seq (.region c.g1 #[c.oN,c.oX] false) (.seq (.cond c.tok .skip (.exit c.bl)) (.block c.b1 (.seq (.region c.g2 (c.oE::c.post).toArray false) c.rest)))) (Exit.inBlock c.bl be) nn a' w':=by
      intro hJ';refine ih (iO++[e]) kD s' E' a' w' ?_ ?_ hJ' pV r' cx5
      . have:=hp.length_eq;simp only[aS]at this;omega
      . refine List.Perm.trans ?_ Ft;rw[bB];exact List.Perm.append_left iO hp.symm
     have pJ:∀y,y≠ .normal->mY c.bl (fun y s'=>es y (OH m kd Q s')) y s'->Exit.inBlock c.bl be y a' w':=by
      intro y hy q;have EV:∀y,es y (OH m kd Q s')->be y a' w':=fun y q=>k y _ E' a' w' q ub (by show M<=s'.n;omega) ⟨ub.good,r'.oz,r'.S,r'.size,r'.gG⟩;cases y<;>first|exact absurd rfl hy|exact EV _ q|skip
      rename_i j;simp only[Exit.inBlock,mY]at q ⊢;split
      . rename_i he;rw[aH he]at q;exact EV _ q
      . rename_i he;rw[aI he]at q;exact EV _ q
     cases y with
     |normal=>exact uA q
     |exit j=>
      simp only[mY]at q;by_cases he:j=c.b1
      . rw[aH he]at q;have e2:Exit.inBlock c.b1 (Exit.then (Code.rounds P (.seq (.region c.g1 #[c.oN,c.oX] false) (.seq (.cond c.tok .skip (.exit c.bl)) (.block c.b1 (.seq (.region c.g2 (c.oE::c.post).toArray false) c.rest)))) (Exit.inBlock c.bl be) nn) (Exit.inBlock c.bl be)) (.exit j) a' w':=by
         simp only[Exit.inBlock];rw[aH he];exact uA q
        exact e2
      . rw[aI he]at q;have e2:Exit.inBlock c.b1 (Exit.then (Code.rounds P (.seq (.region c.g1 #[c.oN,c.oX] false) (.seq (.cond c.tok .skip (.exit c.bl)) (.block c.b1 (.seq (.region c.g2 (c.oE::c.post).toArray false) c.rest)))) (Exit.inBlock c.bl be) nn) (Exit.inBlock c.bl be)) (.exit j) a' w':=by
         simp only[Exit.inBlock];rw[aI he];exact pJ (.exit j) (by simp) q
        exact e2
     |goto l=>exact pJ (.goto l) (by simp) q
     |ret=>exact pJ .ret (by simp) q
     |panic ch=>exact pJ (.panic ch) (by simp) q
     |outgrown=>exact pJ .outgrown (by simp) q
 exact key (Q.length+1) [] Q _ _ _ _ (Nat.lt_succ_self _) (.refl _) N (aA _) r1 amd
theorem zu{P:Program}{M h1:Nat}{c:rM}{s:St}{es:Exit->St->Prop}{xR:Operand}{tI m:Nat}{kd:Option IntKind}{Q:ae}{v0:V}{kA Aa:H V}(W:P.follows .mixedOrders=true)(I:sM P h1 c xR tI)
  (h0:dJ P c.o0 s.S s.h s.n=some (.val v0 s.h s.n)) (hp0:jg s.S c.o0.dst v0=some kA) (G:iY kA xR=some (.map (some m))) (UC:s.h.get m=some (.dI kd Q)) (y8:m<fP) (hp1:jg kA c.oR.dst (.ptr (some (s.n,0)))=some Aa)
  (hL:ae->St->Prop) (N:hL [] { S:=Aa,h:=s.h.set m none,n:=s.n+1,gG:=s.gG })
  (Ll:∀iO left s1,hL iO s1->List.Perm (iO++left) Q->∃aa fr,fa (s.n+1) aa s1=some fr/\fr.S.get tI=some (.ptr (some (s.n,0)))/\
   (left=[]->∃xU sD,jg fr.S c.oN.dst (.ew [.bool false])=some xU/\jl P Vl #[c.oN,c.oX] [c.oX] { fr with S:=xU }=some (.normal,sD)/\iY sD.S c.tok=some (.bool false)/\es .normal (OH m kd Q sD))/\
   (∀e kD,List.Perm left (e::kD)->∃xU s2 Ym s4,jg fr.S c.oN.dst (.ew [.bool true,e.1.iZ,e.2.iZ])=some xU/\jl P Vl #[c.oN,c.oX] [c.oX] { fr with S:=xU }=some (.normal,s2)/\iY s2.S c.tok=some (.bool true)/\s2.S.get tI=some (.ptr (some (s.n,0)))/\s2.h=fr.h/\s2.n=fr.n/\
    jg s2.S c.oE.dst (.ew [e.1.iZ,e.2.iZ])=some Ym/\jl P Vl (c.oE::c.post).toArray c.post { s2 with S:=Ym }=some (.normal,s4)/\
    TG P (s.n+1) h1 c.rest s4 (mY c.b1 (andThen (hL (iO++[e])) (mY c.bl fun y s'=>es y (OH m kd Q s')))))):TG P M h1 c.code s es:=
 I7 W I h0 hp0 G UC y8 hp1 hL N fun iO left s1 hj hp=>by
  obtain⟨aa,fr,hS,r⟩:=Ll iO left s1 hj hp;exact⟨fr,.norm hS,r⟩
end Go.Eng
