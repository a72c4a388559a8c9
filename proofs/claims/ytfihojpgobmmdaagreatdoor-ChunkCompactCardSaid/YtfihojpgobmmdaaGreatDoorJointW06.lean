/- The engine, part MB: calls, one of which is known at its arguments and memory. No conditions: lemmas alone. -/
import Derived.Test.YtfihojpgobmmdaaGreatDoorJointW04
import Derived.Maps.RangeRun
set_option linter.unusedVariables false
set_option linter.unusedSimpArgs false
set_option linter.unusedSectionVars false
set_option maxRecDepth 10000
namespace Go.Eng
open Go Go.RowKit
abbrev fo(a:ag)(h:Tr O)(n:Nat):Prop:=a=a/\h=h/\n=n
def fD(cs:fb)(f:FuncId)(args:ag)(h:Tr O)(n:Nat)(r:V×Tr O×Nat):fb:=fun f' a' h' n'=>match Nat.beq f' f with
 |true=>some [(⟨[],[],[a'=args/\h'=h/\n'=n]⟩,r)]
 |false=>cs f' a' h' n'
open Classical in
noncomputable def Q6(cf:fM)(f:FuncId)(args:ag)(h:Tr O)(n:Nat)(r:V×Tr O×Nat):fM:=fun f' a' h' n'=>
 if f'=f then(if a'=args/\h'=h/\n'=n then some (.ret r.1,r.2.1,r.2.2)else none)else cf f' a' h' n'
theorem KU{cs:fb}{cf:fM}(hs:o9 cs cf)(f:FuncId)(args:ag)(h:Tr O)(n:Nat)(r:V×Tr O×Nat):o9 (fD cs f args h n r) (Q6 cf f args h n r):=by
 intro f' a' h' n';unfold fD Q6;by_cases hf:f'=f
 . subst hf;rw[cM,aG rfl];intro l e;obtain rfl:=eo e;refine⟨⟨_,aq.2 rfl,fun c hc=>by simp at hc⟩,fun e he _ hg=>?_⟩;simp only[aq]at he;subst he;have:a'=args/\h'=h/\n'=n:=hg.2 _ (aq.2 rfl);simp only;rw[aG this];rfl
 . have:Nat.beq f' f=false:=by
    cases q:Nat.beq f' f with
    |false=>rfl
    |true=>exact absurd (aD q) hf
   rw[this,aI hf];exact hs f' a' h' n'
theorem UH{P:Program}{cf:fM}(hk:je P cf){f:FuncId}{args:ag}{h:Tr O}{n:Nat}{v:V}{h1:Tr O}{n1:Nat}(fF:f<P.funcs.size)
  (hc:∀E w c9,dI E args c9->Good E h w->qN E n->Calls P f c9.toArray w (jX E h n w (.ret v) h1 n1)):je P (Q6 cf f args h n (v,h1,n1)):=by
 intro f' a' h' n' aaf h2 n2 e E w c9 ra g hd;unfold Q6 at e;split at e
 . rename_i hf;subst hf;split at e
   . rename_i hq;obtain⟨rfl,rfl,rfl⟩:=hq;simp only[an,aB]at e;obtain⟨rfl,rfl,rfl⟩:=e;exact⟨fun _=>hc E w c9 ra g hd,fun m l s hf _=>absurd fF (by rw[hf];exact Nat.not_lt.2 (Nat.le_add_right _ _))⟩
   . cases e
 . exact hk f' a' h' n' aaf h2 n2 e E w c9 ra g hd
noncomputable def CX.jy{P:Program}(X:CX P){f:FuncId}{args:ag}{h:Tr O}{n:Nat}{v:V}{h1:Tr O}{n1:Nat}(fF:f<P.funcs.size)
  (hc:∀E w c9,dI E args c9->Good E h w->qN E n->Calls P f c9.toArray w (jX E h n w (.ret v) h1 n1)):CX P:=
 ⟨fD X.cs f args h n (v,h1,n1),Q6 X.cf f args h n (v,h1,n1),KU X.snd f args h n (v,h1,n1),UH X.ok fF hc⟩
def Da(cs:fb)(f:FuncId)(q:ag->Bool)(args:ag)(h:Tr O)(n:Nat)(r:V×Tr O×Nat):fb:=fun f' a' h' n'=>match Nat.beq f' f&&q a' with
 |true=>some [(⟨[],[],[a'=args/\h'=h/\n'=n]⟩,r)]
 |false=>cs f' a' h' n'
open Classical in
noncomputable def II(cf:fM)(f:FuncId)(q:ag->Bool)(args:ag)(h:Tr O)(n:Nat)(r:V×Tr O×Nat):fM:=fun f' a' h' n'=>
 if(Nat.beq f' f&&q a')=true then(if a'=args/\h'=h/\n'=n then some (.ret r.1,r.2.1,r.2.2)else none)else cf f' a' h' n'
theorem IJ{cs:fb}{cf:fM}(hs:o9 cs cf)(f:FuncId)(q:ag->Bool)(args:ag)(h:Tr O)(n:Nat)(r:V×Tr O×Nat):o9 (Da cs f q args h n r) (II cf f q args h n r):=by
 intro f' a' h' n';unfold Da II;cases hb:(Nat.beq f' f&&q a')with
 |true=>
  rw[aG rfl];intro l e;obtain rfl:=eo e;refine⟨⟨_,aq.2 rfl,fun c hc=>by simp at hc⟩,fun e he _ hg=>?_⟩;simp only[aq]at he;subst he;have:a'=args/\h'=h/\n'=n:=hg.2 _ (aq.2 rfl);simp only;rw[aG this];rfl
 |false=>
  rw[aI (by simp)];exact hs f' a' h' n'
theorem Q7{P:Program}{cf:fM}(hk:je P cf){f:FuncId}{q:ag->Bool}{args:ag}{h:Tr O}{n:Nat}{v:V}{h1:Tr O}{n1:Nat}(fF:f<P.funcs.size)
  (hc:∀E w c9,dI E args c9->Good E h w->qN E n->Calls P f c9.toArray w (jX E h n w (.ret v) h1 n1)):je P (II cf f q args h n (v,h1,n1)):=by
 intro f' a' h' n' aaf h2 n2 e E w c9 ra g hd;unfold II at e;split at e
 . rename_i hf;simp only[aC]at hf;have hf:=aD hf.1;subst hf;split at e
   . rename_i hq;obtain⟨rfl,rfl,rfl⟩:=hq;simp only[an,aB]at e;obtain⟨rfl,rfl,rfl⟩:=e;exact⟨fun _=>hc E w c9 ra g hd,fun m l s hf _=>absurd fF (by rw[hf];exact Nat.not_lt.2 (Nat.le_add_right _ _))⟩
   . cases e
 . exact hk f' a' h' n' aaf h2 n2 e E w c9 ra g hd
noncomputable def CX.Q8{P:Program}(X:CX P)(q:ag->Bool){f:FuncId}{args:ag}{h:Tr O}{n:Nat}{v:V}{h1:Tr O}{n1:Nat}(fF:f<P.funcs.size)
  (hc:∀E w c9,dI E args c9->Good E h w->qN E n->Calls P f c9.toArray w (jX E h n w (.ret v) h1 n1)):CX P:=
 ⟨Da X.cs f q args h n (v,h1,n1),II X.cf f q args h n (v,h1,n1),IJ X.snd f q args h n (v,h1,n1),Q7 X.ok fF hc⟩
def cU(P:Program)(f:FuncId)(args:ag)(h:Tr O)(n:Nat)(v:V)(h1:Tr O)(n1:Nat):Prop:=∀E w c9,dI E args c9->Good E h w->qN E n->Calls P f c9.toArray w (jX E h n w (.ret v) h1 n1)
theorem BM:∀(l:af) (t:Tr O) (j:Nat) (o:O),(∀p∈l,p.1<fL)->(hL.go t l).get j=some o->t.get j=some o\/(j,o)∈l
 | [],t,j,o,_,h=>.inl h
 |(k,v)::l,t,j,o,hl,h=>by
  rcases BM l _ j o (fun q hq=>hl q (by simp[hq])) h with q|q
  . rw[Tr.eP _ _ _ (hl (k,v) (by simp))]at q;split at q
    . rename_i z;simp only[an]at q;subst z;subst q;exact .inr (by simp)
    . exact .inl q
  . exact .inr (by simp[q])
theorem Ar{ns:List (Option Nat)}{h:Tr O}{l:af}(hl:∀p∈l,p.1<fL)(h1:∀p∈jR,ns.getD p.2 none=some p.2)(h2:nu ns=true)
  (h3:∀j m,ns.getD j none=some m->(∃p∈jR,p.2=m)\/h.get m≠none) (h4:∀p∈l,∃m o,ns.getD p.1 none=some m/\h.get m=some o/\o.rn (mu ns)=some p.2):vl ns h (hL l):=by
 refine⟨h1,h2,h3,fun j o1 hj=>?_⟩;rcases BM l .nil j o1 hl hj with q|q
 . simp[Tr.get]at q
 . exact h4 _ q
open Go.ChangeMaps (setBlock)
structure KV(φ:Nat->Option (Array Value))(kd:Option IntKind)(es:ae)(w:World)(r b:Nat)(left:ae):Prop where
 ex:∃seen fT ek,w.heap[r]? =some (.mapIter (some b) ek seen ek)/\w.heap[b]? =some (.map fT ek)/\jU φ kd es fT.toList ek/\∃l,List.Perm l left/\jT φ l (leftOf fT seen).toList
theorem KV.mono{φ LZ:Nat->Option (Array Value)}{kd:Option IntKind}{es left:ae}{w w':World}{r b:Nat}(kX:∀b c,φ b=some c->LZ b=some c)(hr:w'.heap[r]? =w.heap[r]?)(hb:w'.heap[b]? =w.heap[b]?)(i:KV φ kd es w r b left):KV LZ kd es w' r b left:=by
 obtain⟨seen,fT,ek,h1,h2,h3,l,h4,h5⟩:=i.ex;exact⟨seen,fT,ek,hr.trans h1,hb.trans h2,h3.mono kX,l,h4,xh kX _ _ h5⟩
theorem Fg{φ:Nat->Option (Array Value)}:∀(a1:List MapEntry) {e:MapEntry} {a2:List MapEntry} {l:ae},jT φ l (a1++e::a2)->∃l1 c l2,l=l1++c::l2/\jT φ l1 a1/\lq φ c.1 e.key/\lq φ c.2 e.val/\jT φ l2 a2
 | [],e,a2,l,h=>by
   cases l with
   |nil=>have h:([]++e::a2:List MapEntry)=[]:=h;cases h
   |cons c l2=>
    obtain⟨y,ys,h1,h2,h3,h4⟩:=h;simp only[cE,List.cons.injEq]at h4;obtain⟨rfl,rfl⟩:=h4;exact⟨[],c,l2,rfl,rfl,h1,h2,h3⟩
 |x::a1,e,a2,l,h=>by
  cases l with
  |nil=>have h:(x::a1++e::a2:List MapEntry)=[]:=h;cases h
  |cons c0 l0=>
   obtain⟨y,ys,h1,h2,h3,h4⟩:=h;simp only[List.cons_append,List.cons.injEq]at h4;obtain⟨rfl,rfl⟩:=h4;obtain⟨l1,c,l2,rfl,k1,k2,k3,k4⟩:=Fg a1 h3;exact⟨c0::l1,c,l2,rfl,⟨_,_,h1,h2,k1,rfl⟩,k2,k3,k4⟩
theorem Fh{φ:Nat->Option (Array Value)}:∀{l1:ae} {a1:List MapEntry} {l2:ae} {a2:List MapEntry},jT φ l1 a1->jT φ l2 a2->jT φ (l1++l2) (a1++a2)
 | [],a1,l2,a2,h1,h2=>by have h1:a1=[]:=h1;subst h1;exact h2
 |c::l1,a1,l2,a2,h1,h2=>by
  obtain⟨y,ys,k1,k2,k3,rfl⟩:=h1;exact⟨y,ys++a2,k1,k2,Fh k3 h2,rfl⟩
theorem Oc{φ:Nat->Option (Array Value)}{l:ae}(h:jT φ l []):l=[]:=by
 cases l with
 |nil=>rfl
 |cons c l=>obtain⟨_,_,_,_,_,h⟩:=h;cases h
section
variable(es:Array MapEntry)(seen:Array Nat)
theorem oO:(leftOf es seen).toList=es.toList.filter fun e=>!seen.contains e.born:=by
 simp[leftOf]
theorem IK(b:Nat):(leftOf es (seen.push b)).toList=(leftOf es seen).toList.filter fun e=>!(e.born==b):=by
 rw[oO,oO,List.filter_filter];congr 1;funext e;have:(e.born==b)=decide (e.born=b):=rfl;rw[this];simp[Bool.and_comm]
end
theorem UI{P:Program}{φ:Nat->Option (Array Value)}{kd:Option IntKind}{es left:ae}{w:World}{r b:Nat}(hrb:r≠b)(i:KV φ kd es w r b left)(ty:TypeId):
  (left=[]/\(Instr.next (.pointer (some ⟨r,0,none⟩)) false ty).run P w= .ok (.tuple #[.bool false]) w) \/
  ∃c ku k v w',List.Perm left (c::ku)/\lq φ c.1 k/\lq φ c.2 v/\(Instr.next (.pointer (some ⟨r,0,none⟩)) false ty).run P w= .ok (.tuple #[.bool true,k,v]) w'/\
   (∀w2:World,w2.heap[r]? =w'.heap[r]?->w2.heap[b]? =w'.heap[b]?->(Instr.entry (.pointer (some ⟨r,0,none⟩))).run P w2= .ok (.tuple #[k,v]) w2)/\KV φ kd es w' r b ku/\w'.heap.size=w.heap.size/\w'.tape=w.tape/\w'.os=w.os/\w'.output=w.output/\∀x,x≠r->w'.heap[x]? =w.heap[x]?:=by
 obtain⟨seen,fT,ek,hr,hb,hM,l,hl,hm⟩:=i.ex;rcases run_next_at (P:=P) w ty r b ek ek seen fT ek hr hb (fun x hx=>hM.old x hx) (aA _)with⟨h0,fK⟩|⟨e,he,w1,Hi,fK⟩
 . left;have:(leftOf fT seen).toList=[]:=by rw[<- Array.length_toList]at h0;exact List.eq_nil_of_length_eq_zero h0
   rw[this]at hm;have:=Oc hm;subst this;exact⟨hl.symm.eq_nil,fK⟩
 . right;obtain⟨a1,a2,ha⟩:=List.append_of_mem he;have J8:((leftOf fT seen).toList.map (·.born)).Nodup:=by
    rw[oO];exact hM.born.sublist (List.filter_sublist.map _)
   rw[ha]at hm;obtain⟨l1,c,l2,rfl,k1,k2,k3,k4⟩:=Fg a1 hm;have aag:w1.heap=w.heap:=by rcases Hi with rfl|rfl<;>rfl
   have aah:w1.tape=w.tape/\w1.os=w.os/\w1.output=w.output:=by rcases Hi with rfl|rfl<;>exact⟨rfl,rfl,rfl⟩
   have ak1:r<w.heap.size:=(aQ.1 hr).1;have sV:(setBlock w1 r (.mapIter (some b) ek (seen.push e.born) ek)).heap[r]? =some (.mapIter (some b) ek (seen.push e.born) ek):=by
    simp[setBlock,aag,ak1]
   have aen:∀x,x≠r->(setBlock w1 r (.mapIter (some b) ek (seen.push e.born) ek)).heap[x]? =w.heap[x]?:=by
    intro x hx;simp only[setBlock,aag];rw[Array.getElem?_setIfInBounds_ne (Ne.symm hx)]
   have hbb:=(aen b (Ne.symm hrb)).trans hb;refine⟨c,l1++l2,e.key,e.val,_,?_,k2,k3,fK,?_,⟨seen.push e.born,fT,ek,sV,hbb,hM,l1++l2,.refl _,?_⟩,by simp[setBlock,aag],aah.1,aah.2.1,aah.2.2,aen⟩
   . exact hl.symm.trans List.perm_middle
   . have ak2:e∈fT.toList:=by
      rw[oO]at he;exact(List.mem_filter.1 he).1
     exact fun w2 g1 g2=>run_entry_at w2 r b ek seen fT ek e (g1.trans sV) (g2.trans hbb) ak2 hM.born
   . rw[IK,ha];rw[ha,aX,bN]at J8;have aeo:=List.nodup_append.1 J8;have f1:a1.filter (fun x=>!(x.born==e.born))=a1:=by
      rw[List.filter_eq_self];intro x hx;have:x.born≠e.born:=fun q=>aeo.2.2 x.born (bj.2 ⟨x,hx,rfl⟩) e.born (by simp) q;simp[this]
     have f2:a2.filter (fun x=>!(x.born==e.born))=a2:=by
      rw[List.filter_eq_self];intro x hx;have h3:=(cg.1 aeo.2.1).1;have:x.born≠e.born:=fun q=>h3 (by rw[<- q];exact bj.2 ⟨x,hx,rfl⟩);simp[this]
     rw[List.filter_append,f1,List.filter_cons];simp only[cz,Bool.not_true,aO,cG,f2];exact Fh k1 k4
section
variable{P:Program}{F:Fence}{n:Nat}{ops:Array Oper}{Q:Exit->Act->World->Prop}{a:Act}{w:World}{rest:List Oper}{o:Oper}
theorem Od{t k e:TypeId}{x:Operand}{b:Nat}{es:Array MapEntry}{ek:Nat}(hg:o.guard=none)(o6:o.op= .range t x)(hu:P.underlying t=some (.map k e))(hx:a.eval x= .map (some b))(hb:w.heap[b]? =some (.map es ek))
  (hK:wpListIn F n P ops Q rest (a.put o.dst (.pointer (some ⟨w.heap.size,0,none⟩))) (w.alloc (.mapIter (some b) ek #[] ek))):wpListIn F n P ops Q (o::rest) a w:=by
 refine wpListIn_plain hg fun K' UJ=>?_;have fK:=run_range_map (P:=P) w t k e b es ek hu hb;unfold Oper.wpIn;refine⟨by simp[Oper.about,o6],?_⟩;rw[lu (by rw[o6];intro c o7;cases o7)];simp[execOp,o6,hx,fK,Result.andThen];exact UJ _ _ hK
theorem IL{x:Operand}{r:Nat}{v:Value}{w':World}(hg:o.guard=none)(o6:o.op= .next x false)(hx:a.eval x= .pointer (some ⟨r,0,none⟩))(fK:(Instr.next (.pointer (some ⟨r,0,none⟩)) false o.type).run P w= .ok v w')
  (hK:wpListIn F n P ops Q rest (a.put o.dst v) w'):wpListIn F n P ops Q (o::rest) a w:=by
 refine wpListIn_plain hg fun K' UJ=>?_;unfold Oper.wpIn;refine⟨by simp[Oper.about,o6],?_⟩;rw[lu (by rw[o6];intro c o7;cases o7)];simp[execOp,o6,hx,fK,Result.andThen];exact UJ _ _ hK
theorem Oe{x:Operand}{r:Nat}{v:Value}(hg:o.guard=none)(o6:o.op= .entry x)(hx:a.eval x= .pointer (some ⟨r,0,none⟩))(fK:(Instr.entry (.pointer (some ⟨r,0,none⟩))).run P w= .ok v w)
  (hK:wpListIn F n P ops Q rest (a.put o.dst v) w):wpListIn F n P ops Q (o::rest) a w:=by
 refine wpListIn_plain hg fun K' UJ=>?_;unfold Oper.wpIn;refine⟨by simp[Oper.about,o6],?_⟩;rw[lu (by rw[o6];intro c o7;cases o7)];simp[execOp,o6,hx,fK,Result.andThen];exact UJ _ _ hK
end
theorem ir.iter{E:Env}{h:Tr O}{w:World}{n m:Nat}{ob:Obj}(g:Good E h w)(hn:E.ι n=none)(yP:m<fL):ir E h w (E.put n w.heap.size 0 0) (h.set m none) (w.alloc ob):=by
 have uL:∀m b s,E.ι m=some (b,s)->b≠w.heap.size:=fun m b s e hb=>by have:=g.mW m b s e;omega
 have kE:E.le (E.put n w.heap.size 0 0):=Env.rz hn fun m x t e hx=>absurd hx (uL m x t e);have Bz:∀b c,E.φ b=some c->b<w.heap.size:=fun b c q=>by
  obtain⟨⟨el,fz,e⟩,_⟩:=g.gP b c q;exact(aQ.1 e).1
 have hs:∀k o,(h.set m none).get k=some o->h.get k=some o:=by
  intro k o hk;rw[Tr.eP _ _ _ yP]at hk;split at hk
  . cases hk
  . exact hk
 have fN:∀k,(h.set m none).get k≠none->k≠n:=by
  rintro k hk rfl;obtain⟨o,ho⟩:=bf.1 hk;obtain⟨b,s,e,_⟩:=g.rel k o (hs k o ho);rw[hn]at e;cases e
 refine⟨kE,⟨fun k o hk=>?_,fun k k' b s s' EG hk uo e e'=>?_,fun k b s e=>?_,g.jj.mono kE,fun b c q=>⟨by rw[jI (Bz b c q)];exact(g.gP b c q).1,fun k s hk e=>?_⟩⟩,by simp,rfl,rfl,rfl,fun b hb _=>jI hb,fun k b s hk e hb=>?_,fun _ _ q=>.inl q⟩
 . obtain⟨b,s,h1,h2⟩:=g.rel k o (hs k o hk);exact⟨b,s,by rw[Env.fA (fN k (by rw[hk];simp))];exact h1,ij kE (kE.nm k b s h1).2 (jI (g.mW k b s h1)) h2⟩
 . rw[Env.fA (fN k hk.live)]at e;rw[Env.fA (fN k' uo)]at e';exact g.inj k k' b s s' EG (gw hs hk) (ng hs uo) e e'
 . by_cases a:k=n
   . subst a;rw[Env.fa]at e;cases e;simp
   . rw[Env.fA a]at e;have:=g.mW k b s e;simp;omega
 . rw[Env.fA (fN k hk.live)]at e;exact(g.gP b c q).2 k s (gw hs hk) e
 . rw[Env.fA (fN k hk)]at e;exact⟨k,s,ng hs hk,e,gw hs⟩
theorem lB.weaken{n0 n1:Nat}(hn:n0<=n1){E E':Env}{h h':Tr O}{w w':World}(u:lB n1 E h w E' h' w'):lB n0 E h w E' h' w':=
 ⟨fun m b s hm=>u.le m b s be,fun m hm=>u.low m be,u.fz,u.good,u.size,u.tape,u.os,u.output,u.keep,u.sR,u.DV⟩
structure wV(n0:Nat)(E0:Env)(h0:Tr O)(w0:World)(m mi:Nat)(kd:Option IntKind)(es left:ae)(r b:Nat)(E:Env)(h:Tr O)(w:World):Prop where
 qp:lB n0 E0 h0 w0 E h w
 it:KV E.φ kd es w r b left
 em:E.ι m=some (b,0)
 ei:E.ι mi=some (r,0)
 hr:∀k z,h.get k≠none->E.ι k≠some (r,z)
 hb:∀k z,h.get k≠none->E.ι k≠some (b,z)
 rlt:r<w.heap.size
 blt:b<w.heap.size
 r0:w0.heap.size<=r
 ne:r≠b
theorem wV.step{n0 n1:Nat}{E0:Env}{h0:Tr O}{w0:World}{m mi:Nat}{kd:Option IntKind}{es left:ae}{r b:Nat}{E E':Env}{h h':Tr O}{w w':World}(hn:n0<=n1)(hm:m<n1)(hi:mi<n1)(c:wV n0 E0 h0 w0 m mi kd es left r b E h w)
  (u:lB n1 E h w E' h' w'):wV n0 E0 h0 w0 m mi kd es left r b E' h' w' where
 qp:=c.qp.trans (u.weaken hn)
 it:=c.it.mono u.fz (u.keep r c.rlt fun k z hk=>c.hr k z hk.live) (u.keep b c.blt fun k z hk=>c.hb k z hk.live)
 em:=(u.low m hm).trans c.em
 ei:=(u.low mi hi).trans c.ei
 hr:=fun k z hk e=>by
  obtain⟨m0,s0,q1,q2,_⟩:=u.sR k r z hk e c.rlt;exact c.hr m0 s0 q1 q2
 hb:=fun k z hk e=>by
  obtain⟨m0,s0,q1,q2,_⟩:=u.sR k b z hk e c.blt;exact c.hb m0 s0 q1 q2
 rlt:=bE c.rlt u.size
 blt:=bE c.blt u.size
 r0:=c.r0
 ne:=c.ne
theorem wV.aep{n0:Nat}{E0:Env}{h0:Tr O}{w0:World}{m mi:Nat}{kd:Option IntKind}{es left ku:ae}{r b:Nat}{E:Env}{h:Tr O}{w w':World}(c:wV n0 E0 h0 w0 m mi kd es left r b E h w)(i:KV E.φ kd es w' r b ku)
  (h1:w'.heap.size=w.heap.size) (h2:w'.tape=w.tape) (h3:w'.os=w.os) (h4:w'.output=w.output) (h5:∀x,x≠r->w'.heap[x]? =w.heap[x]?):wV n0 E0 h0 w0 m mi kd es ku r b E h w':=by
 have fN:∀k b' z,h.get k≠none->E.ι k=some (b',z)->b'≠r:=fun k b' z hk e q=>c.hr k z hk (q▸e);have g:=c.qp.good;have x8:∀b' cc,E.φ b'=some cc->b'≠r:=by
  rintro b' cc q rfl;obtain⟨⟨el,fz,e⟩,_⟩:=g.gP _ cc q;obtain⟨seen,fT,ek,k1,_⟩:=c.it.ex;rw[k1]at e;cases e
 refine⟨⟨c.qp.le,c.qp.low,c.qp.fz,⟨fun k o hk=>?_,g.inj,fun k b' z e=>by rw[h1];exact g.mW k b' z e,g.jj,fun b' cc q=>⟨by rw[h5 b' (x8 b' cc q)];exact(g.gP b' cc q).1,(g.gP b' cc q).2⟩⟩,by rw[h1];exact c.qp.size,h2.trans c.qp.tape,h3.trans c.qp.os,h4.trans c.qp.output,fun x hx tV=>?_,c.qp.sR,c.qp.DV⟩,i,c.em,c.ei,c.hr,c.hb,by rw[h1];exact c.rlt,by rw[h1];exact c.blt,c.r0,c.ne⟩
 . obtain⟨b',z,e,q⟩:=g.rel k o hk;exact⟨b',z,e,ij E.le_refl rfl (h5 b' (fN k b' z (by rw[hk];simp) e)) q⟩
 . rw[h5 x (by have:=c.r0;omega)];exact c.qp.keep x hx tV
def Of(m:Nat)(kd:Option IntKind)(es:ae)(s:St):St:={ s with h:=s.h.set m (some (.dF kd es)) }
theorem wV.back{n0:Nat}{E0:Env}{h0:Tr O}{w0:World}{m mi:Nat}{kd:Option IntKind}{es left:ae}{r b:Nat}{E:Env}{h:Tr O}{w:World}(c:wV n0 E0 h0 w0 m mi kd es left r b E h w)(hm0:eC h0 m)(he0:E0.ι m=some (b,0))(yP:m<fL):
  lB n0 E0 h0 w0 E (h.set m (some (.dF kd es))) w:=by
 have g:=c.qp.good;obtain⟨seen,fT,ek,k1,k2,k3,_⟩:=c.it.ex;have kJ:∀k,(h.set m (some (O.dF kd es))).get k=if k=m then some (.dF kd es)else h.get k:=fun k=>Tr.eP _ _ _ yP
 have ue:∀k,k≠m->eC (h.set m (some (O.dF kd es))) k->eC h k:=fun k hk ⟨o,q1,q2⟩=>⟨o,by rw[kJ,aI hk]at q1;exact q1,q2⟩;have x8:∀b' cc,E.φ b'=some cc->b'≠b:=by
  rintro b' cc q rfl;obtain⟨⟨el,fz,e⟩,_⟩:=g.gP _ cc q;rw[k2]at e;cases e
 refine⟨c.qp.le,c.qp.low,c.qp.fz,⟨fun k o hk=>?_,fun k k' b' z z' EG hk uo e e'=>?_,g.mW,g.jj,fun b' cc q=>⟨(g.gP b' cc q).1,fun k z hk e=>?_⟩⟩,c.qp.size,c.qp.tape,c.qp.os,c.qp.output,c.qp.keep,fun k b' z hk e Gb=>?_,c.qp.DV⟩
 . rw[kJ]at hk;split at hk
   . rename_i q;subst q;cases hk;exact⟨b,0,c.em,rfl,fT,ek,k2,k3⟩
   . exact g.rel k o hk
 . by_cases q:k=m
   . subst q;rw[c.em]at e;cases e;have uo:h.get k'≠none:=by rw[kJ,aI (Ne.symm EG)]at uo;exact uo
     exact c.hb k' z' uo e'
   . by_cases q':k'=m
     . subst q';rw[c.em]at e';cases e';exact c.hb k z (ue k q hk).live e
     . exact g.inj k k' b' z z' EG (ue k q hk) (by rw[kJ,aI q']at uo;exact uo) e e'
 . by_cases q':k=m
   . subst q';rw[c.em]at e;cases e;exact x8 _ cc q rfl
   . exact(g.gP b' cc q).2 k z (ue k q' hk) e
 . by_cases q':k=m
   . subst q';rw[c.em]at e;cases e;exact⟨k,0,hm0.live,he0,fun _=>hm0⟩
   . obtain⟨m0,s0,p1,p2,p3⟩:=c.qp.sR k b' z (by rw[kJ,aI q']at hk;exact hk) e Gb;exact⟨m0,s0,p1,p2,fun x=>p3 (ue k q' x)⟩
def UK:fM:=fun _ _ _ _=>none
theorem GF(P:Program):je P UK:=fun _ _ _ _ _ _ _ e=>by cases e
structure q7 where
 g0:Nat
 g1:Nat
 g2:Nat
 o0:Oper
 oR:Oper
 oN:Oper
 oX:Oper
 oE:Oper
 post:List Oper
 bl:Nat
 b1:Nat
 tok:Operand
 rest:Code
def q7.code(m:q7):Code:=.seq (.region m.g0 #[m.o0,m.oR] false) (.block m.bl (.loop (.seq (.region m.g1 #[m.oN,m.oX] false) (.seq (.cond m.tok .skip (.exit m.bl)) (.block m.b1 (.seq (.region m.g2 (m.oE::m.post).toArray false) m.rest))))))
structure sj(P:Program)(N:Nat)(c:q7)(xR:Operand)(tI:Nat):Prop where
 g0:c.o0.guard=none
 gR:c.oR.guard=none
 gN:c.oN.guard=none
 gE:c.oE.guard=none
 opR:∃ty k e,c.oR.op= .range ty xR/\P.underlying ty=some (.map k e)
 dR:c.oR.dst=some tI
 opN:c.oN.op= .next (.tmp tI) false
 opE:c.oE.op= .entry (.tmp tI)
 ok:eX N c.code=true
 tI:tI<fL
def KW(n0 N:Nat)(s S:St):Prop:=∀E a w,jY E N s a w->n0<=s.n->n0<=S.n/\∃E2,jY E2 N S a w/\lB n0 E s.h w E2 S.h w
theorem KW.norm{n0 N:Nat}{L:List Nat}{s S:St}(e:e9 n0 L s=some S):KW n0 N s S:=fun _ _ _ r _=>(qY e r).2
theorem KW.trans{n0 N:Nat}{a b c:St}(h1:KW n0 N a b)(h2:KW n0 N b c):KW n0 N a c:=fun E x w r hn=>by
 obtain⟨xl,E2,r2,u2⟩:=h1 E x w r hn;obtain⟨Kk,E3,r3,u3⟩:=h2 E2 x w r2 xl;exact⟨Kk,E3,r3,u2.trans u3⟩
theorem KW.mem{n0 N:Nat}{s:St}{h2:Tr O}(hg:∀E w,Good E s.h w->Good E h2 w/\∀m,(h2.get m≠none↔s.h.get m≠none)/\(eC h2 m->eC s.h m)):KW n0 N s { s with h:=h2 }:=fun E a w r hn=>by
 obtain⟨g2,k2⟩:=hg E w r.good;exact⟨hn,E,⟨g2,r.oe,r.fr,r.size,r.gz⟩,⟨fun _ _ _ _ e=>⟨e,rfl⟩,fun _ _=>rfl,fun _ _ q=>q,g2,aA _,rfl,rfl,rfl,fun _ _ _=>rfl,fun m b s1 hm e1 _=>⟨m,s1,(k2 m).1.1 hm,e1,(k2 m).2⟩,fun _ _ q=>.inl q⟩⟩
theorem KW.deep{n0 N:Nat}{s S:St}(l:List Nat)(e:C0 l s=some S):KW n0 N s S:=by
 unfold C0 at e;split at e
 case h_2=>cases e
 rename_i h2 hh;obtain rfl:=eo e;exact KW.mem fun E w g=>qG l s.h h2 hh g
theorem IM{P:Program}{n0 N:Nat}{c:q7}{s:St}{Q:Exit->St->Prop}{xR:Operand}{tI m:Nat}{kd:Option IntKind}{es:ae}{v0:V}{ko zO:Tr V}(hm:P.follows .mixedOrders=true)(hc:sj P N c xR tI)
  (h0:dz P c.o0 s.fr s.h s.n=some (.val v0 s.h s.n)) (hp0:iV s.fr c.o0.dst v0=some ko) (hx:iI ko xR=some (.map (some m))) (TZ:s.h.get m=some (.dF kd es)) (yP:m<fL) (hp1:iV ko c.oR.dst (.ptr (some (s.n,0)))=some zO)
  (J:ae->St->Prop) (h1:J [] { fr:=zO,h:=s.h.set m none,n:=s.n+1,gz:=s.gz })
  (KX:∀iB left s1,J iB s1->List.Perm (iB++left) es->∃S,KW (s.n+1) N s1 S/\S.fr.get tI=some (.ptr (some (s.n,0)))/\
   (left=[]->∃xz sD,iV S.fr c.oN.dst (.ew [.bool false])=some xz/\ja P UK #[c.oN,c.oX] [c.oX] { S with fr:=xz }=some (.normal,sD)/\iI sD.fr c.tok=some (.bool false)/\Q .normal (Of m kd es sD))/\
   (∀e ku,List.Perm left (e::ku)->∃xz s2 Xs s4,iV S.fr c.oN.dst (.ew [.bool true,e.1.iJ,e.2.iJ])=some xz/\ja P UK #[c.oN,c.oX] [c.oX] { S with fr:=xz }=some (.normal,s2)/\iI s2.fr c.tok=some (.bool true)/\s2.fr.get tI=some (.ptr (some (s.n,0)))/\s2.h=S.h/\s2.n=S.n/\
    iV s2.fr c.oE.dst (.ew [e.1.iJ,e.2.iJ])=some Xs/\ja P UK (c.oE::c.post).toArray c.post { s2 with fr:=Xs }=some (.normal,s4)/\
    TG P (s.n+1) N c.rest s4 (mQ c.b1 (andThen (J (iB++[e])) (mQ c.bl fun y s'=>Q y (Of m kd es s')))))):TG P n0 N c.code s Q:=by
 intro E a w K r hn k;have iD:=hc.ok;unfold q7.code at iD;simp only[eX,aC]at iD;obtain⟨⟨hA,_⟩,⟨hB,_⟩,_,⟨hC,_⟩,asw⟩:=iD;have uh:∀{o:Oper},(match o.dst with|some d=>decide (d<N)|none=>true)=true->nl N o.dst:=by
  intro o h d hd;rw[hd]at h;exact aH h
 have hd0:nl N c.o0.dst:=uh (bq.1 hA c.o0 (by simp));have hdR:nl N c.oR.dst:=uh (bq.1 hA c.oR (by simp));have hdN:nl N c.oN.dst:=uh (bq.1 hB c.oN (by simp));have hdX:nl N c.oX.dst:=uh (bq.1 hB c.oX (by simp));have ak4:nl N c.oE.dst:=uh (bq.1 hC c.oE (by simp));have hdP:∀o∈c.post,nl N o.dst:=fun o ho=>uh (bq.1 hC o (by simp[ho]));have sz:∀{E:Env} {s:St} {a:Act} {w:World} {o:Oper},jY E N s a w->nl N o.dst->nl a.tmps.size o.dst:=by
  intro E s a w o r h;rw[r.size];exact h
 obtain⟨ty,kt,et,ak5,hu⟩:=hc.opR;unfold q7.code;refine wp_seq ((wpIn_wide (n:=0)).1 (wpIn_region_list (F:=fz none) ?_));show wpListIn (fz none) 0 P _ _ [c.o0,c.oR] a w;refine wpListIn_plain hc.g0 fun K' UJ=>?_;refine Cr r.good (r.oe _ (aA _)) (fun y _=>iF r.good.jj r.fr y) h0 fun E1 w1 v1 q1 q2 q3 q4=>UJ _ _ ?_
 obtain rfl:E1=E:=by rcases q4 with⟨_,h⟩|h
                     . exact h
                     . omega
 have rf:yJ E1 ko (a.put c.o0.dst v1):=jE r.fr hp0 q1 (sz r hd0);obtain⟨b,e1,hxv⟩:∃b,E1.ι m=some (b,0)/\(a.put c.o0.dst v1).eval xR= .map (some b):=by
  have:=iF q2.good.jj rf xR _ hx;obtain⟨b,h1,h2⟩:=this;exact⟨b,h1,h2⟩
 obtain⟨b',z',e2,hz,fT,ek,hb,hM⟩:=q2.good.rel m _ TZ;rw[e1]at e2;simp only[an,aB]at e2;obtain⟨rfl,_⟩:=e2;refine Od hc.gR ak5 hu hxv hb ?_;have u0:ir E1 s.h w E1 s.h w1:=q2;have aeq:E1.ι s.n=none:=r.oe _ (aA _);have uI:=ir.iter (ob:=.mapIter (some b) ek #[] ek) q2.good aeq yP;have u1:=u0.trans uI;have PA:m<s.n:=by
  rcases bP m s.n with q|q
  . exact q
  . have:=r.oe m q;rw[e1]at this;cases this
 have ak6:b<w1.heap.size:=q2.good.mW m b 0 e1;have EU:∀k,k<s.n->(E1.put s.n w1.heap.size 0 0).ι k=E1.ι k:=fun k hk=>Env.fA be;have ak7:wV n0 E1 s.h w m s.n kd es es w1.heap.size b (E1.put s.n w1.heap.size 0 0) (s.h.set m none) (w1.alloc (.mapIter (some b) ek #[] ek)):=by
  have hkn:∀k,(s.h.set m none).get k≠none->s.h.get k≠none/\k≠m:=by
   intro k hk;rw[Tr.eP _ _ _ yP]at hk;split at hk
   . exact absurd rfl hk
   . rename_i z;exact⟨hk,z⟩
  have aer:∀k z b',s.h.get k≠none->(E1.put s.n w1.heap.size 0 0).ι k=some (b',z)->E1.ι k=some (b',z):=by
   intro k z b' hk e;by_cases q:k=s.n
   . subst q;obtain⟨o,ho⟩:=bf.1 hk;obtain⟨b2,z2,e2,_⟩:=r.good.rel _ o ho;rw[aeq]at e2;cases e2
   . rwa [Env.fA q]at e
  refine⟨.of u1 EU hn,⟨⟨#[],fT,ek,heap_alloc_new,by rw[jI ak6];exact hb,hM,?_⟩⟩,by rw[EU m PA];exact e1,Env.fa,fun k z hk e=>?_,fun k z hk e=>?_,by simp,by simp;omega,u0.size,be⟩
  . obtain⟨l,p1,p2⟩:=hM.row;refine⟨l,p1,?_⟩;have:(leftOf fT #[]).toList=fT.toList:=by rw[oO];simp
    rw[this];exact p2
  . have:=q2.good.mW k _ _ (aer k z _ (hkn k hk).1 e);omega
  . obtain⟨k1,k2⟩:=hkn k hk;exact q2.good.inj m k b 0 z (Ne.symm k2) ⟨_,TZ,rfl⟩ k1 e1 (aer k z _ k1 e)
 have QK:eC s.h m:=⟨_,TZ,rfl⟩;have r1:jY (E1.put s.n w1.heap.size 0 0) N { fr:=zO,h:=s.h.set m none,n:=s.n+1,gz:=s.gz } ((a.put c.o0.dst v1).put c.oR.dst (.pointer (some ⟨w1.heap.size,0,none⟩))) (w1.alloc (.mapIter (some b) ek #[] ek)):=by
  refine⟨uI.good,fun k hk=>?_,jE (jW uI.le rf) hp1 ⟨w1.heap.size,0,Env.fa,rfl⟩ (by rw[iE,r.size];exact hdR),by rw[iE,iE];exact r.size,by rw[gA,gA];exact iT uI.le _ _ r.gz⟩;have hk:s.n+1<=k:=hk;rw[Env.fA be];exact r.oe k (by show s.n<=k;omega)
 show(Code.block _ _).wp P K _ _;refine wp_block (wp_loop_rounds (es.length+1) ?_);have key:∀(nn:Nat) (iB left:ae) (s1:St) (E:Env) (a:Act) (w2:World),left.length<nn->List.Perm (iB++left) es->J iB s1->s.n+1<=s1.n->jY E N s1 a w2->wV n0 E1 s.h w m s.n kd es left w1.heap.size b E s1.h w2->
  Code.rounds P (.seq (.region c.g1 #[c.oN,c.oX] false) (.seq (.cond c.tok .skip (.exit c.bl)) (.block c.b1 (.seq (.region c.g2 (c.oE::c.post).toArray false) c.rest)))) (Exit.inBlock c.bl K) nn a w2:=by
  intro nn
  induction nn with
  |zero=>intro iB left s1 E a w2 hl;omega
  |succ nn ih=>
   intro iB left s1 E a w2 hl Fi hJ DW r1 cx;rw[rounds_succ];obtain⟨S,hS,x8,aes,IN⟩:=KX iB left s1 hJ Fi;obtain⟨xl,E2,r2,u2⟩:=hS _ _ _ r1 DW;have cx:=cx.step (n1:=s.n+1) be be be u2;have hev:∀{E:Env} {S:St} {a:Act} {w:World},jY E N S a w->E.ι s.n=some (w1.heap.size,0)->S.fr.get tI=some (.ptr (some (s.n,0)))->a.eval (.tmp tI)= .pointer (some ⟨w1.heap.size,0,none⟩):=by
    intro E S a w r e hf;obtain⟨x',g1,b',z',g2,g3⟩:=r.fr tI _ hf;rw[e]at g2;simp only[an,aB]at g2;obtain⟨rfl,rfl⟩:=g2;simp only[Act.eval,b7,g1,Option.getD_some];exact g3
   refine wp_seq ((wpIn_wide (n:=0)).1 (wpIn_region_list (F:=fz none) ?_));show wpListIn (fz none) 0 P _ _ [c.oN,c.oX] a w2;rcases UI (P:=P) cx.ne cx.it c.oN.type with⟨vS,fK⟩|⟨e,ku,kk,vv,w3,hp,hk,hv,fK,wG,it',z1,z2,z3,z4,z5⟩
   . obtain⟨xz,sD,p1,p2,p3,p4⟩:=aes vS;refine IL hc.gN hc.opN (hev r2 cx.ei x8) fK ?_;have r3:jY E2 N { S with fr:=xz } (a.put c.oN.dst (.tuple #[.bool false])) w2:=⟨r2.good,r2.oe,jE r2.fr p1 ⟨[.bool false],⟨_,[],rfl,rfl,rfl⟩,rfl⟩ (sz r2 hdN),by rw[iE];exact r2.size,by rw[gA];exact r2.gz⟩;refine kO (uR:=none) (GF P) [c.oX] _ .normal sD (.inl rfl) (fun o ho=>by rw[aq]at ho;subst ho;exact hdX) p2 E2 _ w2 _ r3 ?_;intro E' a' w' x' u fJ pE r' sJ;cases x'<;>first|exact sJ.elim|skip
     have Kk:s.n+1<=sD.n:=bV xl pE;have cx2:=cx.step (n1:=s.n+1) be be be (lB.of u fJ xl);show(Code.seq (.cond c.tok .skip (.exit c.bl)) _).wp P _ a' w';refine wp_seq (wp_cond_false (oH r'.good.jj r'.fr p3) (wp_exit ?_));show Exit.inBlock c.bl K (.exit c.bl) a' w';simp only[Exit.inBlock,if_true];have ub:=cx2.back QK e1 yP;exact k .normal _ E' a' w' p4 ub (by show n0<=sD.n;omega) ⟨ub.good,r'.oe,r'.fr,r'.size,r'.gz⟩
   . obtain⟨xz,s2,Xs,s4,p1,p2,p3,p4,p5,p6,p7,p8,hT⟩:=IN e ku hp;refine IL hc.gN hc.opN (hev r2 cx.ei x8) fK ?_;have cx1:=cx.aep it' z1 z2 z3 z4 z5;have r3:jY E2 N { S with fr:=xz } (a.put c.oN.dst (.tuple #[.bool true,kk,vv])) w3:=
      ⟨cx1.qp.good,r2.oe,jE r2.fr p1 ⟨[.bool true,kk,vv],⟨_,_,rfl,⟨_,_,l6 _ _ hk,⟨_,[],l6 _ _ hv,rfl,rfl⟩,rfl⟩,rfl⟩,rfl⟩ (sz r2 hdN),by rw[iE];exact r2.size,by rw[gA];exact r2.gz⟩
     refine kO (uR:=none) (GF P) [c.oX] _ .normal s2 (.inl rfl) (fun o ho=>by rw[aq]at ho;subst ho;exact hdX) p2 E2 _ w3 _ r3 ?_;intro E3 a3 w4 x' u fJ pE r4 sJ;cases x'<;>first|exact sJ.elim|skip
     have cx3:=cx1.step (n1:=s.n+1) be be be (lB.of u fJ xl);show(Code.seq (.cond c.tok .skip (.exit c.bl)) _).wp P _ a3 w4;refine wp_seq (wp_cond_true (oH r4.good.jj r4.fr p3) (wp_skip ?_));show(Code.block c.b1 _).wp P _ a3 w4;refine wp_block (wp_seq ((wpIn_wide (n:=0)).1 (wpIn_region_list (F:=fz none) ?_)));have hh:w4.heap[w1.heap.size]? =w3.heap[w1.heap.size]?/\w4.heap[b]? =w3.heap[b]?:=
      ⟨u.keep _ cx1.rlt fun k z hk=>cx1.hr k z hk.live,u.keep _ cx1.blt fun k z hk=>cx1.hb k z hk.live⟩
     show wpListIn (fz none) 0 P _ _ (c.oE::c.post) a3 w4;refine Oe hc.gE hc.opE (hev r4 cx3.ei p4) (wG w4 hh.1 hh.2) ?_;have r5:jY E3 N { s2 with fr:=Xs } (a3.put c.oE.dst (.tuple #[kk,vv])) w4:=
      ⟨r4.good,r4.oe,jE r4.fr p7 ⟨[kk,vv],⟨_,_,l6 _ _ (kM u.le.fz _ _ hk),⟨_,[],l6 _ _ (kM u.le.fz _ _ hv),rfl,rfl⟩,rfl⟩,rfl⟩ (sz r4 ak4),by rw[iE];exact r4.size,by rw[gA];exact r4.gz⟩
     refine kO (uR:=none) (GF P) c.post _ .normal s4 (.inl rfl) hdP p8 E3 _ w4 _ r5 ?_;intro E4 a4 w5 x' u4 aet hn4 r6 sJ;cases x'<;>first|exact sJ.elim|skip
     have Kk:s.n+1<=s2.n:=by rw[p6];exact xl
     have cx4:=cx3.step (n1:=s.n+1) be be be (lB.of u4 aet Kk);have hn5:s.n+1<=s4.n:=bV Kk hn4;show c.rest.wp P _ a4 w5;refine hT E4 a4 w5 _ r6 hn5 fun y s' E' a' w' q u' pE r'=>?_;have cx5:=cx4.step (n1:=s.n+1) be be be u';have ub:=cx5.back QK e1 yP;have ug:J (iB++[e]) s'->Code.rounds P (.seq (.region c.g1 #[c.oN,c.oX] false) (.seq (.cond c.tok .skip (.exit c.bl)) (.block c.b1 (.seq (.region c.g2 (c.oE::c.post).toArray false) c.rest)))) (Exit.inBlock c.bl K) nn a' w':=by
      intro hJ';refine ih (iB++[e]) ku s' E' a' w' ?_ ?_ hJ' pE r' cx5
      . have:=hp.length_eq;simp only[aS]at this;omega
      . refine List.Perm.trans ?_ Fi;rw[bB];exact List.Perm.append_left iB hp.symm
     have oZ:∀y,y≠ .normal->mQ c.bl (fun y s'=>Q y (Of m kd es s')) y s'->Exit.inBlock c.bl K y a' w':=by
      intro y hy q;have EH:∀y,Q y (Of m kd es s')->K y a' w':=fun y q=>k y _ E' a' w' q ub (by show n0<=s'.n;omega) ⟨ub.good,r'.oe,r'.fr,r'.size,r'.gz⟩;cases y<;>first|exact absurd rfl hy|exact EH _ q|skip
      rename_i j;simp only[Exit.inBlock,mQ]at q ⊢;split
      . rename_i he;rw[aG he]at q;exact EH _ q
      . rename_i he;rw[aI he]at q;exact EH _ q
     cases y with
     |normal=>exact ug q
     |exit j=>
      simp only[mQ]at q;by_cases he:j=c.b1
      . rw[aG he]at q;have e2:Exit.inBlock c.b1 (Exit.then (Code.rounds P (.seq (.region c.g1 #[c.oN,c.oX] false) (.seq (.cond c.tok .skip (.exit c.bl)) (.block c.b1 (.seq (.region c.g2 (c.oE::c.post).toArray false) c.rest)))) (Exit.inBlock c.bl K) nn) (Exit.inBlock c.bl K)) (.exit j) a' w':=by
         simp only[Exit.inBlock];rw[aG he];exact ug q
        exact e2
      . rw[aI he]at q;have e2:Exit.inBlock c.b1 (Exit.then (Code.rounds P (.seq (.region c.g1 #[c.oN,c.oX] false) (.seq (.cond c.tok .skip (.exit c.bl)) (.block c.b1 (.seq (.region c.g2 (c.oE::c.post).toArray false) c.rest)))) (Exit.inBlock c.bl K) nn) (Exit.inBlock c.bl K)) (.exit j) a' w':=by
         simp only[Exit.inBlock];rw[aI he];exact oZ (.exit j) (by simp) q
        exact e2
     |goto l=>exact oZ (.goto l) (by simp) q
     |ret=>exact oZ .ret (by simp) q
     |panic ch=>exact oZ (.panic ch) (by simp) q
     |outgrown=>exact oZ .outgrown (by simp) q
 exact key (es.length+1) [] es _ _ _ _ (Nat.lt_succ_self _) (.refl _) h1 (aA _) r1 ak7
theorem y9{P:Program}{n0 N:Nat}{c:q7}{s:St}{Q:Exit->St->Prop}{xR:Operand}{tI m:Nat}{kd:Option IntKind}{es:ae}{v0:V}{ko zO:Tr V}(hm:P.follows .mixedOrders=true)(hc:sj P N c xR tI)
  (h0:dz P c.o0 s.fr s.h s.n=some (.val v0 s.h s.n)) (hp0:iV s.fr c.o0.dst v0=some ko) (hx:iI ko xR=some (.map (some m))) (TZ:s.h.get m=some (.dF kd es)) (yP:m<fL) (hp1:iV ko c.oR.dst (.ptr (some (s.n,0)))=some zO)
  (J:ae->St->Prop) (h1:J [] { fr:=zO,h:=s.h.set m none,n:=s.n+1,gz:=s.gz })
  (KX:∀iB left s1,J iB s1->List.Perm (iB++left) es->∃L S,e9 (s.n+1) L s1=some S/\S.fr.get tI=some (.ptr (some (s.n,0)))/\
   (left=[]->∃xz sD,iV S.fr c.oN.dst (.ew [.bool false])=some xz/\ja P UK #[c.oN,c.oX] [c.oX] { S with fr:=xz }=some (.normal,sD)/\iI sD.fr c.tok=some (.bool false)/\Q .normal (Of m kd es sD))/\
   (∀e ku,List.Perm left (e::ku)->∃xz s2 Xs s4,iV S.fr c.oN.dst (.ew [.bool true,e.1.iJ,e.2.iJ])=some xz/\ja P UK #[c.oN,c.oX] [c.oX] { S with fr:=xz }=some (.normal,s2)/\iI s2.fr c.tok=some (.bool true)/\s2.fr.get tI=some (.ptr (some (s.n,0)))/\s2.h=S.h/\s2.n=S.n/\
    iV s2.fr c.oE.dst (.ew [e.1.iJ,e.2.iJ])=some Xs/\ja P UK (c.oE::c.post).toArray c.post { s2 with fr:=Xs }=some (.normal,s4)/\
    TG P (s.n+1) N c.rest s4 (mQ c.b1 (andThen (J (iB++[e])) (mQ c.bl fun y s'=>Q y (Of m kd es s')))))):TG P n0 N c.code s Q:=
 IM hm hc h0 hp0 hx TZ yP hp1 J h1 fun iB left s1 hj hp=>by
  obtain⟨L,S,hS,r⟩:=KX iB left s1 hj hp;exact⟨S,.norm hS,r⟩
end Go.Eng
