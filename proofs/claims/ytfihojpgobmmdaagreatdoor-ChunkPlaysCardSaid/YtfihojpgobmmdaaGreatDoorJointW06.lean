/- The engine, part MB: calls, one of which is known at its arguments and memory. No conditions: lemmas alone. -/
import Derived.Test.YtfihojpgobmmdaaGreatDoorJointW04
import Derived.Maps.RangeRun
set_option linter.unusedVariables false
set_option linter.unusedSimpArgs false
set_option linter.unusedSectionVars false
set_option maxRecDepth 10000
namespace Go.Eng
open Go Go.RowKit
abbrev fG(a:ag)(h:Tr O)(n:Nat):Prop:=a=a/\h=h/\n=n
def fK(cs:eX)(f:FuncId)(args:ag)(h:Tr O)(n:Nat)(r:V×Tr O×Nat):eX:=fun f' a' h' n'=>match Nat.beq f' f with
 |true=>some [(⟨[],[],[a'=args/\h'=h/\n'=n]⟩,r)]
 |false=>cs f' a' h' n'
open Classical in
noncomputable def QE(cf:fJ)(f:FuncId)(args:ag)(h:Tr O)(n:Nat)(r:V×Tr O×Nat):fJ:=fun f' a' h' n'=>
 if f'=f then(if a'=args/\h'=h/\n'=n then some (.ret r.1,r.2.1,r.2.2)else none)else cf f' a' h' n'
theorem KB{cs:eX}{cf:fJ}(hs:oU cs cf)(f:FuncId)(args:ag)(h:Tr O)(n:Nat)(r:V×Tr O×Nat):oU (fK cs f args h n r) (QE cf f args h n r):=by
 intro f' a' h' n';unfold fK QE;by_cases hf:f'=f
 . subst hf;rw[cL,aG rfl];intro l e;obtain rfl:=ek e;refine⟨⟨_,aq.2 rfl,fun c hc=>by simp at hc⟩,fun e he _ hg=>?_⟩;simp only[aq]at he;subst he;have:a'=args/\h'=h/\n'=n:=hg.2 _ (aq.2 rfl);simp only;rw[aG this];rfl
 . have:Nat.beq f' f=false:=by
    cases q:Nat.beq f' f with
    |false=>rfl
    |true=>exact absurd (aD q) hf
   rw[this,aI hf];exact hs f' a' h' n'
theorem T9{P:Program}{cf:fJ}(hk:jc P cf){f:FuncId}{args:ag}{h:Tr O}{n:Nat}{v:V}{h1:Tr O}{n1:Nat}(fE:f<P.funcs.size)
  (hc:∀E w c7,dG E args c7->Good E h w->qH E n->Calls P f c7.toArray w (jR E h n w (.ret v) h1 n1)):jc P (QE cf f args h n (v,h1,n1)):=by
 intro f' a' h' n' ZG h2 n2 e E w c7 ra g hd;unfold QE at e;split at e
 . rename_i hf;subst hf;split at e
   . rename_i hq;obtain⟨rfl,rfl,rfl⟩:=hq;simp only[an,aB]at e;obtain⟨rfl,rfl,rfl⟩:=e;exact⟨fun _=>hc E w c7 ra g hd,fun m l s hf _=>absurd fE (by rw[hf];exact Nat.not_lt.2 (Nat.le_add_right _ _))⟩
   . cases e
 . exact hk f' a' h' n' ZG h2 n2 e E w c7 ra g hd
noncomputable def CX.ko{P:Program}(X:CX P){f:FuncId}{args:ag}{h:Tr O}{n:Nat}{v:V}{h1:Tr O}{n1:Nat}(fE:f<P.funcs.size)
  (hc:∀E w c7,dG E args c7->Good E h w->qH E n->Calls P f c7.toArray w (jR E h n w (.ret v) h1 n1)):CX P:=
 ⟨fK X.cs f args h n (v,h1,n1),QE X.cf f args h n (v,h1,n1),KB X.snd f args h n (v,h1,n1),T9 X.ok fE hc⟩
def CR(cs:eX)(f:FuncId)(q:ag->Bool)(args:ag)(h:Tr O)(n:Nat)(r:V×Tr O×Nat):eX:=fun f' a' h' n'=>match Nat.beq f' f&&q a' with
 |true=>some [(⟨[],[],[a'=args/\h'=h/\n'=n]⟩,r)]
 |false=>cs f' a' h' n'
open Classical in
noncomputable def Ir(cf:fJ)(f:FuncId)(q:ag->Bool)(args:ag)(h:Tr O)(n:Nat)(r:V×Tr O×Nat):fJ:=fun f' a' h' n'=>
 if(Nat.beq f' f&&q a')=true then(if a'=args/\h'=h/\n'=n then some (.ret r.1,r.2.1,r.2.2)else none)else cf f' a' h' n'
theorem Is{cs:eX}{cf:fJ}(hs:oU cs cf)(f:FuncId)(q:ag->Bool)(args:ag)(h:Tr O)(n:Nat)(r:V×Tr O×Nat):oU (CR cs f q args h n r) (Ir cf f q args h n r):=by
 intro f' a' h' n';unfold CR Ir;cases hb:(Nat.beq f' f&&q a')with
 |true=>
  rw[aG rfl];intro l e;obtain rfl:=ek e;refine⟨⟨_,aq.2 rfl,fun c hc=>by simp at hc⟩,fun e he _ hg=>?_⟩;simp only[aq]at he;subst he;have:a'=args/\h'=h/\n'=n:=hg.2 _ (aq.2 rfl);simp only;rw[aG this];rfl
 |false=>
  rw[aI (by simp)];exact hs f' a' h' n'
theorem QF{P:Program}{cf:fJ}(hk:jc P cf){f:FuncId}{q:ag->Bool}{args:ag}{h:Tr O}{n:Nat}{v:V}{h1:Tr O}{n1:Nat}(fE:f<P.funcs.size)
  (hc:∀E w c7,dG E args c7->Good E h w->qH E n->Calls P f c7.toArray w (jR E h n w (.ret v) h1 n1)):jc P (Ir cf f q args h n (v,h1,n1)):=by
 intro f' a' h' n' ZG h2 n2 e E w c7 ra g hd;unfold Ir at e;split at e
 . rename_i hf;simp only[aC]at hf;have hf:=aD hf.1;subst hf;split at e
   . rename_i hq;obtain⟨rfl,rfl,rfl⟩:=hq;simp only[an,aB]at e;obtain⟨rfl,rfl,rfl⟩:=e;exact⟨fun _=>hc E w c7 ra g hd,fun m l s hf _=>absurd fE (by rw[hf];exact Nat.not_lt.2 (Nat.le_add_right _ _))⟩
   . cases e
 . exact hk f' a' h' n' ZG h2 n2 e E w c7 ra g hd
noncomputable def CX.QG{P:Program}(X:CX P)(q:ag->Bool){f:FuncId}{args:ag}{h:Tr O}{n:Nat}{v:V}{h1:Tr O}{n1:Nat}(fE:f<P.funcs.size)
  (hc:∀E w c7,dG E args c7->Good E h w->qH E n->Calls P f c7.toArray w (jR E h n w (.ret v) h1 n1)):CX P:=
 ⟨CR X.cs f q args h n (v,h1,n1),Ir X.cf f q args h n (v,h1,n1),Is X.snd f q args h n (v,h1,n1),QF X.ok fE hc⟩
def cT(P:Program)(f:FuncId)(args:ag)(h:Tr O)(n:Nat)(v:V)(h1:Tr O)(n1:Nat):Prop:=∀E w c7,dG E args c7->Good E h w->qH E n->Calls P f c7.toArray w (jR E h n w (.ret v) h1 n1)
theorem Bw:∀(l:af) (t:Tr O) (j:Nat) (o:O),(∀p∈l,p.1<fI)->(hL.go t l).get j=some o->t.get j=some o\/(j,o)∈l
 | [],t,j,o,_,h=>.inl h
 |(k,v)::l,t,j,o,hl,h=>by
  rcases Bw l _ j o (fun q hq=>hl q (by simp[hq])) h with q|q
  . rw[Tr.eO _ _ _ (hl (k,v) (by simp))]at q;split at q
    . rename_i z;simp only[an]at q;subst z;subst q;exact .inr (by simp)
    . exact .inl q
  . exact .inr (by simp[q])
theorem Af{ns:List (Option Nat)}{h:Tr O}{l:af}(hl:∀p∈l,p.1<fI)(h1:∀p∈jL,ns.getD p.2 none=some p.2)(h2:ni ns=true)
  (h3:∀j m,ns.getD j none=some m->(∃p∈jL,p.2=m)\/h.get m≠none) (h4:∀p∈l,∃m o,ns.getD p.1 none=some m/\h.get m=some o/\o.rn (mu ns)=some p.2):ve ns h (hL l):=by
 refine⟨h1,h2,h3,fun j o1 hj=>?_⟩;rcases Bw l .nil j o1 hl hj with q|q
 . simp[Tr.get]at q
 . exact h4 _ q
open Go.ChangeMaps (setBlock)
structure KC(φ:Nat->Option (Array Value))(kd:Option IntKind)(es:ae)(w:World)(r b:Nat)(left:ae):Prop where
 ex:∃seen fQ ef,w.heap[r]? =some (.mapIter (some b) ef seen ef)/\w.heap[b]? =some (.map fQ ef)/\jO φ kd es fQ.toList ef/\∃l,List.Perm l left/\jN φ l (leftOf fQ seen).toList
theorem KC.mono{φ Lz:Nat->Option (Array Value)}{kd:Option IntKind}{es left:ae}{w w':World}{r b:Nat}(kQ:∀b c,φ b=some c->Lz b=some c)(hr:w'.heap[r]? =w.heap[r]?)(hb:w'.heap[b]? =w.heap[b]?)(i:KC φ kd es w r b left):KC Lz kd es w' r b left:=by
 obtain⟨seen,fQ,ef,h1,h2,h3,l,h4,h5⟩:=i.ex;exact⟨seen,fQ,ef,hr.trans h1,hb.trans h2,h3.mono kQ,l,h4,wZ kQ _ _ h5⟩
theorem EP{φ:Nat->Option (Array Value)}:∀(a1:List MapEntry) {e:MapEntry} {a2:List MapEntry} {l:ae},jN φ l (a1++e::a2)->∃l1 c l2,l=l1++c::l2/\jN φ l1 a1/\k8 φ c.1 e.key/\k8 φ c.2 e.val/\jN φ l2 a2
 | [],e,a2,l,h=>by
   cases l with
   |nil=>have h:([]++e::a2:List MapEntry)=[]:=h;cases h
   |cons c l2=>
    obtain⟨y,ys,h1,h2,h3,h4⟩:=h;simp only[cD,List.cons.injEq]at h4;obtain⟨rfl,rfl⟩:=h4;exact⟨[],c,l2,rfl,rfl,h1,h2,h3⟩
 |x::a1,e,a2,l,h=>by
  cases l with
  |nil=>have h:(x::a1++e::a2:List MapEntry)=[]:=h;cases h
  |cons c0 l0=>
   obtain⟨y,ys,h1,h2,h3,h4⟩:=h;simp only[List.cons_append,List.cons.injEq]at h4;obtain⟨rfl,rfl⟩:=h4;obtain⟨l1,c,l2,rfl,k1,k2,k3,k4⟩:=EP a1 h3;exact⟨c0::l1,c,l2,rfl,⟨_,_,h1,h2,k1,rfl⟩,k2,k3,k4⟩
theorem ER{φ:Nat->Option (Array Value)}:∀{l1:ae} {a1:List MapEntry} {l2:ae} {a2:List MapEntry},jN φ l1 a1->jN φ l2 a2->jN φ (l1++l2) (a1++a2)
 | [],a1,l2,a2,h1,h2=>by have h1:a1=[]:=h1;subst h1;exact h2
 |c::l1,a1,l2,a2,h1,h2=>by
  obtain⟨y,ys,k1,k2,k3,rfl⟩:=h1;exact⟨y,ys++a2,k1,k2,ER k3 h2,rfl⟩
theorem NP{φ:Nat->Option (Array Value)}{l:ae}(h:jN φ l []):l=[]:=by
 cases l with
 |nil=>rfl
 |cons c l=>obtain⟨_,_,_,_,_,h⟩:=h;cases h
section
variable(es:Array MapEntry)(seen:Array Nat)
theorem oI:(leftOf es seen).toList=es.toList.filter fun e=>!seen.contains e.born:=by
 simp[leftOf]
theorem It(b:Nat):(leftOf es (seen.push b)).toList=(leftOf es seen).toList.filter fun e=>!(e.born==b):=by
 rw[oI,oI,List.filter_filter];congr 1;funext e;have:(e.born==b)=decide (e.born=b):=rfl;rw[this];simp[Bool.and_comm]
end
theorem Ua{P:Program}{φ:Nat->Option (Array Value)}{kd:Option IntKind}{es left:ae}{w:World}{r b:Nat}(hrb:r≠b)(i:KC φ kd es w r b left)(ty:TypeId):
  (left=[]/\(Instr.next (.pointer (some ⟨r,0,none⟩)) false ty).run P w= .ok (.tuple #[.bool false]) w) \/
  ∃c j9 k v w',List.Perm left (c::j9)/\k8 φ c.1 k/\k8 φ c.2 v/\(Instr.next (.pointer (some ⟨r,0,none⟩)) false ty).run P w= .ok (.tuple #[.bool true,k,v]) w'/\
   (∀w2:World,w2.heap[r]? =w'.heap[r]?->w2.heap[b]? =w'.heap[b]?->(Instr.entry (.pointer (some ⟨r,0,none⟩))).run P w2= .ok (.tuple #[k,v]) w2)/\KC φ kd es w' r b j9/\w'.heap.size=w.heap.size/\w'.tape=w.tape/\w'.os=w.os/\w'.output=w.output/\∀x,x≠r->w'.heap[x]? =w.heap[x]?:=by
 obtain⟨seen,fQ,ef,hr,hb,hM,l,hl,hm⟩:=i.ex;rcases run_next_at (P:=P) w ty r b ef ef seen fQ ef hr hb (fun x hx=>hM.old x hx) (aA _)with⟨h0,fH⟩|⟨e,he,w1,Ej,fH⟩
 . left;have:(leftOf fQ seen).toList=[]:=by rw[<- Array.length_toList]at h0;exact List.eq_nil_of_length_eq_zero h0
   rw[this]at hm;have:=NP hm;subst this;exact⟨hl.symm.eq_nil,fH⟩
 . right;obtain⟨a1,a2,ha⟩:=List.append_of_mem he;have JP:((leftOf fQ seen).toList.map (·.born)).Nodup:=by
    rw[oI];exact hM.born.sublist (List.filter_sublist.map _)
   rw[ha]at hm;obtain⟨l1,c,l2,rfl,k1,k2,k3,k4⟩:=EP a1 hm;have ZH:w1.heap=w.heap:=by rcases Ej with rfl|rfl<;>rfl
   have ZI:w1.tape=w.tape/\w1.os=w.os/\w1.output=w.output:=by rcases Ej with rfl|rfl<;>exact⟨rfl,rfl,rfl⟩
   have aj2:r<w.heap.size:=(aQ.1 hr).1;have sQ:(setBlock w1 r (.mapIter (some b) ef (seen.push e.born) ef)).heap[r]? =some (.mapIter (some b) ef (seen.push e.born) ef):=by
    simp[setBlock,ZH,aj2]
   have adF:∀x,x≠r->(setBlock w1 r (.mapIter (some b) ef (seen.push e.born) ef)).heap[x]? =w.heap[x]?:=by
    intro x hx;simp only[setBlock,ZH];rw[Array.getElem?_setIfInBounds_ne (Ne.symm hx)]
   have hbb:=(adF b (Ne.symm hrb)).trans hb;refine⟨c,l1++l2,e.key,e.val,_,?_,k2,k3,fH,?_,⟨seen.push e.born,fQ,ef,sQ,hbb,hM,l1++l2,.refl _,?_⟩,by simp[setBlock,ZH],ZI.1,ZI.2.1,ZI.2.2,adF⟩
   . exact hl.symm.trans List.perm_middle
   . have aj3:e∈fQ.toList:=by
      rw[oI]at he;exact(List.mem_filter.1 he).1
     exact fun w2 g1 g2=>run_entry_at w2 r b ef seen fQ ef e (g1.trans sQ) (g2.trans hbb) aj3 hM.born
   . rw[It,ha];rw[ha,aX,bV]at JP;have adG:=List.nodup_append.1 JP;have f1:a1.filter (fun x=>!(x.born==e.born))=a1:=by
      rw[List.filter_eq_self];intro x hx;have:x.born≠e.born:=fun q=>adG.2.2 x.born (bA.2 ⟨x,hx,rfl⟩) e.born (by simp) q;simp[this]
     have f2:a2.filter (fun x=>!(x.born==e.born))=a2:=by
      rw[List.filter_eq_self];intro x hx;have h3:=(cg.1 adG.2.1).1;have:x.born≠e.born:=fun q=>h3 (by rw[<- q];exact bA.2 ⟨x,hx,rfl⟩);simp[this]
     rw[List.filter_append,f1,List.filter_cons];simp only[beq_self_eq_true,Bool.not_true,aO,cF,f2];exact ER k1 k4
section
variable{P:Program}{F:Fence}{n:Nat}{ops:Array Oper}{Q:Exit->Act->World->Prop}{a:Act}{w:World}{rest:List Oper}{o:Oper}
theorem NQ{t k e:TypeId}{x:Operand}{b:Nat}{es:Array MapEntry}{ef:Nat}(hg:o.guard=none)(oS:o.op= .range t x)(hu:P.underlying t=some (.map k e))(hx:a.eval x= .map (some b))(hb:w.heap[b]? =some (.map es ef))
  (hK:wpListIn F n P ops Q rest (a.put o.dst (.pointer (some ⟨w.heap.size,0,none⟩))) (w.alloc (.mapIter (some b) ef #[] ef))):wpListIn F n P ops Q (o::rest) a w:=by
 refine wpListIn_plain hg fun K' Ub=>?_;have fH:=run_range_map (P:=P) w t k e b es ef hu hb;unfold Oper.wpIn;refine⟨by simp[Oper.about,oS],?_⟩;rw[k9 (by rw[oS];intro c vP;cases vP)];simp[execOp,oS,hx,fH,Result.andThen];exact Ub _ _ hK
theorem Iu{x:Operand}{r:Nat}{v:Value}{w':World}(hg:o.guard=none)(oS:o.op= .next x false)(hx:a.eval x= .pointer (some ⟨r,0,none⟩))(fH:(Instr.next (.pointer (some ⟨r,0,none⟩)) false o.type).run P w= .ok v w')
  (hK:wpListIn F n P ops Q rest (a.put o.dst v) w'):wpListIn F n P ops Q (o::rest) a w:=by
 refine wpListIn_plain hg fun K' Ub=>?_;unfold Oper.wpIn;refine⟨by simp[Oper.about,oS],?_⟩;rw[k9 (by rw[oS];intro c vP;cases vP)];simp[execOp,oS,hx,fH,Result.andThen];exact Ub _ _ hK
theorem NR{x:Operand}{r:Nat}{v:Value}(hg:o.guard=none)(oS:o.op= .entry x)(hx:a.eval x= .pointer (some ⟨r,0,none⟩))(fH:(Instr.entry (.pointer (some ⟨r,0,none⟩))).run P w= .ok v w)
  (hK:wpListIn F n P ops Q rest (a.put o.dst v) w):wpListIn F n P ops Q (o::rest) a w:=by
 refine wpListIn_plain hg fun K' Ub=>?_;unfold Oper.wpIn;refine⟨by simp[Oper.about,oS],?_⟩;rw[k9 (by rw[oS];intro c vP;cases vP)];simp[execOp,oS,hx,fH,Result.andThen];exact Ub _ _ hK
end
theorem ij.iter{E:Env}{h:Tr O}{w:World}{n m:Nat}{ob:Obj}(g:Good E h w)(hn:E.ι n=none)(yG:m<fI):ij E h w (E.put n w.heap.size 0 0) (h.set m none) (w.alloc ob):=by
 have uC:∀m b s,E.ι m=some (b,s)->b≠w.heap.size:=fun m b s e hb=>by have:=g.mO m b s e;omega
 have ku:E.le (E.put n w.heap.size 0 0):=Env.q8 hn fun m x t e hx=>absurd hx (uC m x t e);have Bk:∀b c,E.φ b=some c->b<w.heap.size:=fun b c q=>by
  obtain⟨⟨el,fz,e⟩,_⟩:=g.gI b c q;exact(aQ.1 e).1
 have hs:∀k o,(h.set m none).get k=some o->h.get k=some o:=by
  intro k o hk;rw[Tr.eO _ _ _ yG]at hk;split at hk
  . cases hk
  . exact hk
 have fL:∀k,(h.set m none).get k≠none->k≠n:=by
  rintro k hk rfl;obtain⟨o,ho⟩:=bf.1 hk;obtain⟨b,s,e,_⟩:=g.rel k o (hs k o ho);rw[hn]at e;cases e
 refine⟨ku,⟨fun k o hk=>?_,fun k k' b s s' Eo hk tY e e'=>?_,fun k b s e=>?_,g.jf.mono ku,fun b c q=>⟨by rw[jz (Bk b c q)];exact(g.gI b c q).1,fun k s hk e=>?_⟩⟩,by simp,rfl,rfl,rfl,fun b hb _=>jz hb,fun k b s hk e hb=>?_,fun _ _ q=>.inl q⟩
 . obtain⟨b,s,h1,h2⟩:=g.rel k o (hs k o hk);exact⟨b,s,by rw[Env.fk (fL k (by rw[hk];simp))];exact h1,hU ku (ku.nm k b s h1).2 (jz (g.mO k b s h1)) h2⟩
 . rw[Env.fk (fL k hk.live)]at e;rw[Env.fk (fL k' tY)]at e';exact g.inj k k' b s s' Eo (gm hs hk) (mU hs tY) e e'
 . by_cases a:k=n
   . subst a;rw[Env.eV]at e;cases e;simp
   . rw[Env.fk a]at e;have:=g.mO k b s e;simp;omega
 . rw[Env.fk (fL k hk.live)]at e;exact(g.gI b c q).2 k s (gm hs hk) e
 . rw[Env.fk (fL k hk)]at e;exact⟨k,s,mU hs hk,e,gm hs⟩
theorem lp.weaken{n0 n1:Nat}(hn:n0<=n1){E E':Env}{h h':Tr O}{w w':World}(u:lp n1 E h w E' h' w'):lp n0 E h w E' h' w':=
 ⟨fun m b s hm=>u.le m b s be,fun m hm=>u.low m be,u.fz,u.good,u.size,u.tape,u.os,u.output,u.keep,u.sO,u.DF⟩
structure wN(n0:Nat)(E0:Env)(h0:Tr O)(w0:World)(m mi:Nat)(kd:Option IntKind)(es left:ae)(r b:Nat)(E:Env)(h:Tr O)(w:World):Prop where
 qi:lp n0 E0 h0 w0 E h w
 it:KC E.φ kd es w r b left
 em:E.ι m=some (b,0)
 ei:E.ι mi=some (r,0)
 hr:∀k z,h.get k≠none->E.ι k≠some (r,z)
 hb:∀k z,h.get k≠none->E.ι k≠some (b,z)
 rlt:r<w.heap.size
 blt:b<w.heap.size
 r0:w0.heap.size<=r
 ne:r≠b
theorem wN.step{n0 n1:Nat}{E0:Env}{h0:Tr O}{w0:World}{m mi:Nat}{kd:Option IntKind}{es left:ae}{r b:Nat}{E E':Env}{h h':Tr O}{w w':World}(hn:n0<=n1)(hm:m<n1)(hi:mi<n1)(c:wN n0 E0 h0 w0 m mi kd es left r b E h w)
  (u:lp n1 E h w E' h' w'):wN n0 E0 h0 w0 m mi kd es left r b E' h' w' where
 qi:=c.qi.trans (u.weaken hn)
 it:=c.it.mono u.fz (u.keep r c.rlt fun k z hk=>c.hr k z hk.live) (u.keep b c.blt fun k z hk=>c.hb k z hk.live)
 em:=(u.low m hm).trans c.em
 ei:=(u.low mi hi).trans c.ei
 hr:=fun k z hk e=>by
  obtain⟨m0,s0,q1,q2,_⟩:=u.sO k r z hk e c.rlt;exact c.hr m0 s0 q1 q2
 hb:=fun k z hk e=>by
  obtain⟨m0,s0,q1,q2,_⟩:=u.sO k b z hk e c.blt;exact c.hb m0 s0 q1 q2
 rlt:=bD c.rlt u.size
 blt:=bD c.blt u.size
 r0:=c.r0
 ne:=c.ne
theorem wN.adH{n0:Nat}{E0:Env}{h0:Tr O}{w0:World}{m mi:Nat}{kd:Option IntKind}{es left j9:ae}{r b:Nat}{E:Env}{h:Tr O}{w w':World}(c:wN n0 E0 h0 w0 m mi kd es left r b E h w)(i:KC E.φ kd es w' r b j9)
  (h1:w'.heap.size=w.heap.size) (h2:w'.tape=w.tape) (h3:w'.os=w.os) (h4:w'.output=w.output) (h5:∀x,x≠r->w'.heap[x]? =w.heap[x]?):wN n0 E0 h0 w0 m mi kd es j9 r b E h w':=by
 have fL:∀k b' z,h.get k≠none->E.ι k=some (b',z)->b'≠r:=fun k b' z hk e q=>c.hr k z hk (q▸e);have g:=c.qi.good;have xV:∀b' cc,E.φ b'=some cc->b'≠r:=by
  rintro b' cc q rfl;obtain⟨⟨el,fz,e⟩,_⟩:=g.gI _ cc q;obtain⟨seen,fQ,ef,k1,_⟩:=c.it.ex;rw[k1]at e;cases e
 refine⟨⟨c.qi.le,c.qi.low,c.qi.fz,⟨fun k o hk=>?_,g.inj,fun k b' z e=>by rw[h1];exact g.mO k b' z e,g.jf,fun b' cc q=>⟨by rw[h5 b' (xV b' cc q)];exact(g.gI b' cc q).1,(g.gI b' cc q).2⟩⟩,by rw[h1];exact c.qi.size,h2.trans c.qi.tape,h3.trans c.qi.os,h4.trans c.qi.output,fun x hx tO=>?_,c.qi.sO,c.qi.DF⟩,i,c.em,c.ei,c.hr,c.hb,by rw[h1];exact c.rlt,by rw[h1];exact c.blt,c.r0,c.ne⟩
 . obtain⟨b',z,e,q⟩:=g.rel k o hk;exact⟨b',z,e,hU E.le_refl rfl (h5 b' (fL k b' z (by rw[hk];simp) e)) q⟩
 . rw[h5 x (by have:=c.r0;omega)];exact c.qi.keep x hx tO
def NS(m:Nat)(kd:Option IntKind)(es:ae)(s:St):St:={ s with h:=s.h.set m (some (.dD kd es)) }
theorem wN.back{n0:Nat}{E0:Env}{h0:Tr O}{w0:World}{m mi:Nat}{kd:Option IntKind}{es left:ae}{r b:Nat}{E:Env}{h:Tr O}{w:World}(c:wN n0 E0 h0 w0 m mi kd es left r b E h w)(hm0:ew h0 m)(he0:E0.ι m=some (b,0))(yG:m<fI):
  lp n0 E0 h0 w0 E (h.set m (some (.dD kd es))) w:=by
 have g:=c.qi.good;obtain⟨seen,fQ,ef,k1,k2,k3,_⟩:=c.it.ex;have kD:∀k,(h.set m (some (O.dD kd es))).get k=if k=m then some (.dD kd es)else h.get k:=fun k=>Tr.eO _ _ _ yG
 have tT:∀k,k≠m->ew (h.set m (some (O.dD kd es))) k->ew h k:=fun k hk ⟨o,q1,q2⟩=>⟨o,by rw[kD,aI hk]at q1;exact q1,q2⟩;have xV:∀b' cc,E.φ b'=some cc->b'≠b:=by
  rintro b' cc q rfl;obtain⟨⟨el,fz,e⟩,_⟩:=g.gI _ cc q;rw[k2]at e;cases e
 refine⟨c.qi.le,c.qi.low,c.qi.fz,⟨fun k o hk=>?_,fun k k' b' z z' Eo hk tY e e'=>?_,g.mO,g.jf,fun b' cc q=>⟨(g.gI b' cc q).1,fun k z hk e=>?_⟩⟩,c.qi.size,c.qi.tape,c.qi.os,c.qi.output,c.qi.keep,fun k b' z hk e FV=>?_,c.qi.DF⟩
 . rw[kD]at hk;split at hk
   . rename_i q;subst q;cases hk;exact⟨b,0,c.em,rfl,fQ,ef,k2,k3⟩
   . exact g.rel k o hk
 . by_cases q:k=m
   . subst q;rw[c.em]at e;cases e;have tY:h.get k'≠none:=by rw[kD,aI (Ne.symm Eo)]at tY;exact tY
     exact c.hb k' z' tY e'
   . by_cases q':k'=m
     . subst q';rw[c.em]at e';cases e';exact c.hb k z (tT k q hk).live e
     . exact g.inj k k' b' z z' Eo (tT k q hk) (by rw[kD,aI q']at tY;exact tY) e e'
 . by_cases q':k=m
   . subst q';rw[c.em]at e;cases e;exact xV _ cc q rfl
   . exact(g.gI b' cc q).2 k z (tT k q' hk) e
 . by_cases q':k=m
   . subst q';rw[c.em]at e;cases e;exact⟨k,0,hm0.live,he0,fun _=>hm0⟩
   . obtain⟨m0,s0,p1,p2,p3⟩:=c.qi.sO k b' z (by rw[kD,aI q']at hk;exact hk) e FV;exact⟨m0,s0,p1,p2,fun x=>p3 (tT k q' x)⟩
def Uc:fJ:=fun _ _ _ _=>none
theorem Gn(P:Program):jc P Uc:=fun _ _ _ _ _ _ _ e=>by cases e
structure qV where
 g0:Nat
 g1:Nat
 g2:Nat
 o0:Oper
 oR:Oper
 oN:Oper
 oX:Oper
 oE:Oper
 post:List Oper
 bl:Nat
 b1:Nat
 tok:Operand
 rest:Code
def qV.code(m:qV):Code:=.seq (.region m.g0 #[m.o0,m.oR] false) (.block m.bl (.loop (.seq (.region m.g1 #[m.oN,m.oX] false) (.seq (.cond m.tok .skip (.exit m.bl)) (.block m.b1 (.seq (.region m.g2 (m.oE::m.post).toArray false) m.rest))))))
structure r9(P:Program)(N:Nat)(c:qV)(xR:Operand)(tI:Nat):Prop where
 g0:c.o0.guard=none
 gR:c.oR.guard=none
 gN:c.oN.guard=none
 gE:c.oE.guard=none
 opR:∃ty k e,c.oR.op= .range ty xR/\P.underlying ty=some (.map k e)
 dR:c.oR.dst=some tI
 opN:c.oN.op= .next (.tmp tI) false
 opE:c.oE.op= .entry (.tmp tI)
 ok:eS N c.code=true
 tI:tI<fI
def KD(n0 N:Nat)(s S:St):Prop:=∀E a w,jS E N s a w->n0<=s.n->n0<=S.n/\∃E2,jS E2 N S a w/\lp n0 E s.h w E2 S.h w
theorem KD.norm{n0 N:Nat}{L:List Nat}{s S:St}(e:eU n0 L s=some S):KD n0 N s S:=fun _ _ _ r _=>(qT e r).2
theorem KD.trans{n0 N:Nat}{a b c:St}(h1:KD n0 N a b)(h2:KD n0 N b c):KD n0 N a c:=fun E x w r hn=>by
 obtain⟨w8,E2,r2,u2⟩:=h1 E x w r hn;obtain⟨J0,E3,r3,u3⟩:=h2 E2 x w r2 w8;exact⟨J0,E3,r3,u2.trans u3⟩
theorem KD.mem{n0 N:Nat}{s:St}{h2:Tr O}(hg:∀E w,Good E s.h w->Good E h2 w/\∀m,(h2.get m≠none↔s.h.get m≠none)/\(ew h2 m->ew s.h m)):KD n0 N s { s with h:=h2 }:=fun E a w r hn=>by
 obtain⟨g2,k2⟩:=hg E w r.good;exact⟨hn,E,⟨g2,r.nW,r.fr,r.size,r.gu⟩,⟨fun _ _ _ _ e=>⟨e,rfl⟩,fun _ _=>rfl,fun _ _ q=>q,g2,aA _,rfl,rfl,rfl,fun _ _ _=>rfl,fun m b s1 hm e1 _=>⟨m,s1,(k2 m).1.1 hm,e1,(k2 m).2⟩,fun _ _ q=>.inl q⟩⟩
theorem KD.deep{n0 N:Nat}{s S:St}(l:List Nat)(e:CI l s=some S):KD n0 N s S:=by
 unfold CI at e;split at e
 case h_2=>cases e
 rename_i h2 hh;obtain rfl:=ek e;exact KD.mem fun E w g=>qA l s.h h2 hh g
theorem Iv{P:Program}{n0 N:Nat}{c:qV}{s:St}{Q:Exit->St->Prop}{xR:Operand}{tI m:Nat}{kd:Option IntKind}{es:ae}{v0:V}{jY zB:Tr V}(hm:P.follows .mixedOrders=true)(hc:r9 P N c xR tI)
  (h0:dy P c.o0 s.fr s.h s.n=some (.val v0 s.h s.n)) (hp0:iT s.fr c.o0.dst v0=some jY) (hx:iG jY xR=some (.map (some m))) (Tq:s.h.get m=some (.dD kd es)) (yG:m<fI) (hp1:iT jY c.oR.dst (.ptr (some (s.n,0)))=some zB)
  (J:ae->St->Prop) (h1:J [] { fr:=zB,h:=s.h.set m none,n:=s.n+1,gu:=s.gu })
  (KE:∀iy left s1,J iy s1->List.Perm (iy++left) es->∃S,KD (s.n+1) N s1 S/\S.fr.get tI=some (.ptr (some (s.n,0)))/\
   (left=[]->∃xn sD,iT S.fr c.oN.dst (.eo [.bool false])=some xn/\iY P Uc #[c.oN,c.oX] [c.oX] { S with fr:=xn }=some (.normal,sD)/\iG sD.fr c.tok=some (.bool false)/\Q .normal (NS m kd es sD))/\
   (∀e j9,List.Perm left (e::j9)->∃xn s2 WL s4,iT S.fr c.oN.dst (.eo [.bool true,e.1.iH,e.2.iH])=some xn/\iY P Uc #[c.oN,c.oX] [c.oX] { S with fr:=xn }=some (.normal,s2)/\iG s2.fr c.tok=some (.bool true)/\s2.fr.get tI=some (.ptr (some (s.n,0)))/\s2.h=S.h/\s2.n=S.n/\
    iT s2.fr c.oE.dst (.eo [e.1.iH,e.2.iH])=some WL/\iY P Uc (c.oE::c.post).toArray c.post { s2 with fr:=WL }=some (.normal,s4)/\
    TG P (s.n+1) N c.rest s4 (mK c.b1 (andThen (J (iy++[e])) (mK c.bl fun y s'=>Q y (NS m kd es s')))))):TG P n0 N c.code s Q:=by
 intro E a w K r hn k;have iA:=hc.ok;unfold qV.code at iA;simp only[eS,aC]at iA;obtain⟨⟨hA,_⟩,⟨hB,_⟩,_,⟨hC,_⟩,ari⟩:=iA;have tV:∀{o:Oper},(match o.dst with|some d=>decide (d<N)|none=>true)=true->nc N o.dst:=by
  intro o h d hd;rw[hd]at h;exact aH h
 have hd0:nc N c.o0.dst:=tV (bn.1 hA c.o0 (by simp));have hdR:nc N c.oR.dst:=tV (bn.1 hA c.oR (by simp));have hdN:nc N c.oN.dst:=tV (bn.1 hB c.oN (by simp));have hdX:nc N c.oX.dst:=tV (bn.1 hB c.oX (by simp));have aj5:nc N c.oE.dst:=tV (bn.1 hC c.oE (by simp));have hdP:∀o∈c.post,nc N o.dst:=fun o ho=>tV (bn.1 hC o (by simp[ho]));have sz:∀{E:Env} {s:St} {a:Act} {w:World} {o:Oper},jS E N s a w->nc N o.dst->nc a.tmps.size o.dst:=by
  intro E s a w o r h;rw[r.size];exact h
 obtain⟨ty,kt,et,aj6,hu⟩:=hc.opR;unfold qV.code;refine wp_seq ((wpIn_wide (n:=0)).1 (wpIn_region_list (F:=fz none) ?_));show wpListIn (fz none) 0 P _ _ [c.o0,c.oR] a w;refine wpListIn_plain hc.g0 fun K' Ub=>?_;refine Ca r.good (r.nW _ (aA _)) (fun y _=>iC r.good.jf r.fr y) h0 fun E1 w1 v1 q1 q2 q3 q4=>Ub _ _ ?_
 obtain rfl:E1=E:=by rcases q4 with⟨_,h⟩|h
                     . exact h
                     . omega
 have rf:yA E1 jY (a.put c.o0.dst v1):=ju r.fr hp0 q1 (sz r hd0);obtain⟨b,e1,hxv⟩:∃b,E1.ι m=some (b,0)/\(a.put c.o0.dst v1).eval xR= .map (some b):=by
  have:=iC q2.good.jf rf xR _ hx;obtain⟨b,h1,h2⟩:=this;exact⟨b,h1,h2⟩
 obtain⟨b',z',e2,hz,fQ,ef,hb,hM⟩:=q2.good.rel m _ Tq;rw[e1]at e2;simp only[an,aB]at e2;obtain⟨rfl,_⟩:=e2;refine NQ hc.gR aj6 hu hxv hb ?_;have u0:ij E1 s.h w E1 s.h w1:=q2;have adI:E1.ι s.n=none:=r.nW _ (aA _);have uI:=ij.iter (ob:=.mapIter (some b) ef #[] ef) q2.good adI yG;have u1:=u0.trans uI;have O9:m<s.n:=by
  rcases bN m s.n with q|q
  . exact q
  . have:=r.nW m q;rw[e1]at this;cases this
 have aj7:b<w1.heap.size:=q2.good.mO m b 0 e1;have EC:∀k,k<s.n->(E1.put s.n w1.heap.size 0 0).ι k=E1.ι k:=fun k hk=>Env.fk be;have aj8:wN n0 E1 s.h w m s.n kd es es w1.heap.size b (E1.put s.n w1.heap.size 0 0) (s.h.set m none) (w1.alloc (.mapIter (some b) ef #[] ef)):=by
  have hkn:∀k,(s.h.set m none).get k≠none->s.h.get k≠none/\k≠m:=by
   intro k hk;rw[Tr.eO _ _ _ yG]at hk;split at hk
   . exact absurd rfl hk
   . rename_i z;exact⟨hk,z⟩
  have adJ:∀k z b',s.h.get k≠none->(E1.put s.n w1.heap.size 0 0).ι k=some (b',z)->E1.ι k=some (b',z):=by
   intro k z b' hk e;by_cases q:k=s.n
   . subst q;obtain⟨o,ho⟩:=bf.1 hk;obtain⟨b2,z2,e2,_⟩:=r.good.rel _ o ho;rw[adI]at e2;cases e2
   . rwa [Env.fk q]at e
  refine⟨.of u1 EC hn,⟨⟨#[],fQ,ef,heap_alloc_new,by rw[jz aj7];exact hb,hM,?_⟩⟩,by rw[EC m O9];exact e1,Env.eV,fun k z hk e=>?_,fun k z hk e=>?_,by simp,by simp;omega,u0.size,be⟩
  . obtain⟨l,p1,p2⟩:=hM.row;refine⟨l,p1,?_⟩;have:(leftOf fQ #[]).toList=fQ.toList:=by rw[oI];simp
    rw[this];exact p2
  . have:=q2.good.mO k _ _ (adJ k z _ (hkn k hk).1 e);omega
  . obtain⟨k1,k2⟩:=hkn k hk;exact q2.good.inj m k b 0 z (Ne.symm k2) ⟨_,Tq,rfl⟩ k1 e1 (adJ k z _ k1 e)
 have Ql:ew s.h m:=⟨_,Tq,rfl⟩;have r1:jS (E1.put s.n w1.heap.size 0 0) N { fr:=zB,h:=s.h.set m none,n:=s.n+1,gu:=s.gu } ((a.put c.o0.dst v1).put c.oR.dst (.pointer (some ⟨w1.heap.size,0,none⟩))) (w1.alloc (.mapIter (some b) ef #[] ef)):=by
  refine⟨uI.good,fun k hk=>?_,ju (jQ uI.le rf) hp1 ⟨w1.heap.size,0,Env.eV,rfl⟩ (by rw[iB,r.size];exact hdR),by rw[iB,iB];exact r.size,by rw[gw,gw];exact iR uI.le _ _ r.gu⟩;have hk:s.n+1<=k:=hk;rw[Env.fk be];exact r.nW k (by show s.n<=k;omega)
 show(Code.block _ _).wp P K _ _;refine wp_block (wp_loop_rounds (es.length+1) ?_);have key:∀(nn:Nat) (iy left:ae) (s1:St) (E:Env) (a:Act) (w2:World),left.length<nn->List.Perm (iy++left) es->J iy s1->s.n+1<=s1.n->jS E N s1 a w2->wN n0 E1 s.h w m s.n kd es left w1.heap.size b E s1.h w2->
  Code.rounds P (.seq (.region c.g1 #[c.oN,c.oX] false) (.seq (.cond c.tok .skip (.exit c.bl)) (.block c.b1 (.seq (.region c.g2 (c.oE::c.post).toArray false) c.rest)))) (Exit.inBlock c.bl K) nn a w2:=by
  intro nn
  induction nn with
  |zero=>intro iy left s1 E a w2 hl;omega
  |succ nn ih=>
   intro iy left s1 E a w2 hl ES hJ DG r1 cx;rw[rounds_succ];obtain⟨S,hS,xV,adK,Iw⟩:=KE iy left s1 hJ ES;obtain⟨w8,E2,r2,u2⟩:=hS _ _ _ r1 DG;have cx:=cx.step (n1:=s.n+1) be be be u2;have hev:∀{E:Env} {S:St} {a:Act} {w:World},jS E N S a w->E.ι s.n=some (w1.heap.size,0)->S.fr.get tI=some (.ptr (some (s.n,0)))->a.eval (.tmp tI)= .pointer (some ⟨w1.heap.size,0,none⟩):=by
    intro E S a w r e hf;obtain⟨x',g1,b',z',g2,g3⟩:=r.fr tI _ hf;rw[e]at g2;simp only[an,aB]at g2;obtain⟨rfl,rfl⟩:=g2;simp only[Act.eval,b7,g1,Option.getD_some];exact g3
   refine wp_seq ((wpIn_wide (n:=0)).1 (wpIn_region_list (F:=fz none) ?_));show wpListIn (fz none) 0 P _ _ [c.oN,c.oX] a w2;rcases Ua (P:=P) cx.ne cx.it c.oN.type with⟨vJ,fH⟩|⟨e,j9,kk,vv,w3,hp,hk,hv,fH,wu,it',z1,z2,z3,z4,z5⟩
   . obtain⟨xn,sD,p1,p2,p3,p4⟩:=adK vJ;refine Iu hc.gN hc.opN (hev r2 cx.ei xV) fH ?_;have r3:jS E2 N { S with fr:=xn } (a.put c.oN.dst (.tuple #[.bool false])) w2:=⟨r2.good,r2.nW,ju r2.fr p1 ⟨[.bool false],⟨_,[],rfl,rfl,rfl⟩,rfl⟩ (sz r2 hdN),by rw[iB];exact r2.size,by rw[gw];exact r2.gu⟩;refine kI (uK:=none) (Gn P) [c.oX] _ .normal sD (.inl rfl) (fun o ho=>by rw[aq]at ho;subst ho;exact hdX) p2 E2 _ w2 _ r3 ?_;intro E' a' w' x' u fF o8 r' sG;cases x'<;>first|exact sG.elim|skip
     have J0:s.n+1<=sD.n:=bU w8 o8;have cx2:=cx.step (n1:=s.n+1) be be be (lp.of u fF w8);show(Code.seq (.cond c.tok .skip (.exit c.bl)) _).wp P _ a' w';refine wp_seq (wp_cond_false (oB r'.good.jf r'.fr p3) (wp_exit ?_));show Exit.inBlock c.bl K (.exit c.bl) a' w';simp only[Exit.inBlock,if_true];have ub:=cx2.back Ql e1 yG;exact k .normal _ E' a' w' p4 ub (by show n0<=sD.n;omega) ⟨ub.good,r'.nW,r'.fr,r'.size,r'.gu⟩
   . obtain⟨xn,s2,WL,s4,p1,p2,p3,p4,p5,p6,p7,p8,hT⟩:=Iw e j9 hp;refine Iu hc.gN hc.opN (hev r2 cx.ei xV) fH ?_;have cx1:=cx.adH it' z1 z2 z3 z4 z5;have r3:jS E2 N { S with fr:=xn } (a.put c.oN.dst (.tuple #[.bool true,kk,vv])) w3:=
      ⟨cx1.qi.good,r2.nW,ju r2.fr p1 ⟨[.bool true,kk,vv],⟨_,_,rfl,⟨_,_,lX _ _ hk,⟨_,[],lX _ _ hv,rfl,rfl⟩,rfl⟩,rfl⟩,rfl⟩ (sz r2 hdN),by rw[iB];exact r2.size,by rw[gw];exact r2.gu⟩
     refine kI (uK:=none) (Gn P) [c.oX] _ .normal s2 (.inl rfl) (fun o ho=>by rw[aq]at ho;subst ho;exact hdX) p2 E2 _ w3 _ r3 ?_;intro E3 a3 w4 x' u fF o8 r4 sG;cases x'<;>first|exact sG.elim|skip
     have cx3:=cx1.step (n1:=s.n+1) be be be (lp.of u fF w8);show(Code.seq (.cond c.tok .skip (.exit c.bl)) _).wp P _ a3 w4;refine wp_seq (wp_cond_true (oB r4.good.jf r4.fr p3) (wp_skip ?_));show(Code.block c.b1 _).wp P _ a3 w4;refine wp_block (wp_seq ((wpIn_wide (n:=0)).1 (wpIn_region_list (F:=fz none) ?_)));have hh:w4.heap[w1.heap.size]? =w3.heap[w1.heap.size]?/\w4.heap[b]? =w3.heap[b]?:=
      ⟨u.keep _ cx1.rlt fun k z hk=>cx1.hr k z hk.live,u.keep _ cx1.blt fun k z hk=>cx1.hb k z hk.live⟩
     show wpListIn (fz none) 0 P _ _ (c.oE::c.post) a3 w4;refine NR hc.gE hc.opE (hev r4 cx3.ei p4) (wu w4 hh.1 hh.2) ?_;have r5:jS E3 N { s2 with fr:=WL } (a3.put c.oE.dst (.tuple #[kk,vv])) w4:=
      ⟨r4.good,r4.nW,ju r4.fr p7 ⟨[kk,vv],⟨_,_,lX _ _ (kF u.le.fz _ _ hk),⟨_,[],lX _ _ (kF u.le.fz _ _ hv),rfl,rfl⟩,rfl⟩,rfl⟩ (sz r4 aj5),by rw[iB];exact r4.size,by rw[gw];exact r4.gu⟩
     refine kI (uK:=none) (Gn P) c.post _ .normal s4 (.inl rfl) hdP p8 E3 _ w4 _ r5 ?_;intro E4 a4 w5 x' u4 adL hn4 r6 sG;cases x'<;>first|exact sG.elim|skip
     have J0:s.n+1<=s2.n:=by rw[p6];exact w8
     have cx4:=cx3.step (n1:=s.n+1) be be be (lp.of u4 adL J0);have hn5:s.n+1<=s4.n:=bU J0 hn4;show c.rest.wp P _ a4 w5;refine hT E4 a4 w5 _ r6 hn5 fun y s' E' a' w' q u' o8 r'=>?_;have cx5:=cx4.step (n1:=s.n+1) be be be u';have ub:=cx5.back Ql e1 yG;have tU:J (iy++[e]) s'->Code.rounds P (.seq (.region c.g1 #[c.oN,c.oX] false) (.seq (.cond c.tok .skip (.exit c.bl)) (.block c.b1 (.seq (.region c.g2 (c.oE::c.post).toArray false) c.rest)))) (Exit.inBlock c.bl K) nn a' w':=by
      intro hJ';refine ih (iy++[e]) j9 s' E' a' w' ?_ ?_ hJ' o8 r' cx5
      . have:=hp.length_eq;simp only[aS]at this;omega
      . refine List.Perm.trans ?_ ES;rw[bz];exact List.Perm.append_left iy hp.symm
     have oP:∀y,y≠ .normal->mK c.bl (fun y s'=>Q y (NS m kd es s')) y s'->Exit.inBlock c.bl K y a' w':=by
      intro y hy q;have Ep:∀y,Q y (NS m kd es s')->K y a' w':=fun y q=>k y _ E' a' w' q ub (by show n0<=s'.n;omega) ⟨ub.good,r'.nW,r'.fr,r'.size,r'.gu⟩;cases y<;>first|exact absurd rfl hy|exact Ep _ q|skip
      rename_i j;simp only[Exit.inBlock,mK]at q ⊢;split
      . rename_i he;rw[aG he]at q;exact Ep _ q
      . rename_i he;rw[aI he]at q;exact Ep _ q
     cases y with
     |normal=>exact tU q
     |exit j=>
      simp only[mK]at q;by_cases he:j=c.b1
      . rw[aG he]at q;have e2:Exit.inBlock c.b1 (Exit.then (Code.rounds P (.seq (.region c.g1 #[c.oN,c.oX] false) (.seq (.cond c.tok .skip (.exit c.bl)) (.block c.b1 (.seq (.region c.g2 (c.oE::c.post).toArray false) c.rest)))) (Exit.inBlock c.bl K) nn) (Exit.inBlock c.bl K)) (.exit j) a' w':=by
         simp only[Exit.inBlock];rw[aG he];exact tU q
        exact e2
      . rw[aI he]at q;have e2:Exit.inBlock c.b1 (Exit.then (Code.rounds P (.seq (.region c.g1 #[c.oN,c.oX] false) (.seq (.cond c.tok .skip (.exit c.bl)) (.block c.b1 (.seq (.region c.g2 (c.oE::c.post).toArray false) c.rest)))) (Exit.inBlock c.bl K) nn) (Exit.inBlock c.bl K)) (.exit j) a' w':=by
         simp only[Exit.inBlock];rw[aI he];exact oP (.exit j) (by simp) q
        exact e2
     |goto l=>exact oP (.goto l) (by simp) q
     |ret=>exact oP .ret (by simp) q
     |panic ch=>exact oP (.panic ch) (by simp) q
     |outgrown=>exact oP .outgrown (by simp) q
 exact key (es.length+1) [] es _ _ _ _ (Nat.lt_succ_self _) (.refl _) h1 (aA _) r1 aj8
theorem yW{P:Program}{n0 N:Nat}{c:qV}{s:St}{Q:Exit->St->Prop}{xR:Operand}{tI m:Nat}{kd:Option IntKind}{es:ae}{v0:V}{jY zB:Tr V}(hm:P.follows .mixedOrders=true)(hc:r9 P N c xR tI)
  (h0:dy P c.o0 s.fr s.h s.n=some (.val v0 s.h s.n)) (hp0:iT s.fr c.o0.dst v0=some jY) (hx:iG jY xR=some (.map (some m))) (Tq:s.h.get m=some (.dD kd es)) (yG:m<fI) (hp1:iT jY c.oR.dst (.ptr (some (s.n,0)))=some zB)
  (J:ae->St->Prop) (h1:J [] { fr:=zB,h:=s.h.set m none,n:=s.n+1,gu:=s.gu })
  (KE:∀iy left s1,J iy s1->List.Perm (iy++left) es->∃L S,eU (s.n+1) L s1=some S/\S.fr.get tI=some (.ptr (some (s.n,0)))/\
   (left=[]->∃xn sD,iT S.fr c.oN.dst (.eo [.bool false])=some xn/\iY P Uc #[c.oN,c.oX] [c.oX] { S with fr:=xn }=some (.normal,sD)/\iG sD.fr c.tok=some (.bool false)/\Q .normal (NS m kd es sD))/\
   (∀e j9,List.Perm left (e::j9)->∃xn s2 WL s4,iT S.fr c.oN.dst (.eo [.bool true,e.1.iH,e.2.iH])=some xn/\iY P Uc #[c.oN,c.oX] [c.oX] { S with fr:=xn }=some (.normal,s2)/\iG s2.fr c.tok=some (.bool true)/\s2.fr.get tI=some (.ptr (some (s.n,0)))/\s2.h=S.h/\s2.n=S.n/\
    iT s2.fr c.oE.dst (.eo [e.1.iH,e.2.iH])=some WL/\iY P Uc (c.oE::c.post).toArray c.post { s2 with fr:=WL }=some (.normal,s4)/\
    TG P (s.n+1) N c.rest s4 (mK c.b1 (andThen (J (iy++[e])) (mK c.bl fun y s'=>Q y (NS m kd es s')))))):TG P n0 N c.code s Q:=
 Iv hm hc h0 hp0 hx Tq yG hp1 J h1 fun iy left s1 hj hp=>by
  obtain⟨L,S,hS,r⟩:=KE iy left s1 hj hp;exact⟨S,.norm hS,r⟩
end Go.Eng
