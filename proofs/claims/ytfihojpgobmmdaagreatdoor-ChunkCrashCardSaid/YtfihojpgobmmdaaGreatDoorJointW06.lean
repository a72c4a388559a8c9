/- The engine, part MB: calls, one of which is known at its arguments and memory. No conditions: lemmas alone. -/
import Derived.Test.YtfihojpgobmmdaaGreatDoorJointW04
import Derived.Maps.RangeRun
set_option linter.unusedVariables false
set_option linter.unusedSimpArgs false
set_option linter.unusedSectionVars false
set_option maxRecDepth 10000
namespace Go.Eng
open Go Go.RowKit
abbrev fb(a:ag)(h:Tr O)(n:Nat):Prop:=a=a/\h=h/\n=n
def fC(cs:e9)(f:FuncId)(args:ag)(h:Tr O)(n:Nat)(r:V×Tr O×Nat):e9:=fun f' a' h' n'=>match Nat.beq f' f with
 |true=>some [(⟨[],[],[a'=args/\h'=h/\n'=n]⟩,r)]
 |false=>cs f' a' h' n'
open Classical in
noncomputable def Ro(cf:fO)(f:FuncId)(args:ag)(h:Tr O)(n:Nat)(r:V×Tr O×Nat):fO:=fun f' a' h' n'=>
 if f'=f then(if a'=args/\h'=h/\n'=n then some (.ret r.1,r.2.1,r.2.2)else none)else cf f' a' h' n'
theorem K8{cs:e9}{cf:fO}(hs:o5 cs cf)(f:FuncId)(args:ag)(h:Tr O)(n:Nat)(r:V×Tr O×Nat):o5 (fC cs f args h n r) (Ro cf f args h n r):=by
 intro f' a' h' n';unfold fC Ro;by_cases hf:f'=f
 . subst hf;rw[cM,aG rfl];intro l e;obtain rfl:=ew e;refine⟨⟨_,aq.2 rfl,fun c hc=>by simp at hc⟩,fun e he _ hg=>?_⟩;simp only[aq]at he;subst he;have:a'=args/\h'=h/\n'=n:=hg.2 _ (aq.2 rfl);simp only;rw[aG this];rfl
 . have:Nat.beq f' f=false:=by
    cases q:Nat.beq f' f with
    |false=>rfl
    |true=>exact absurd (aD q) hf
   rw[this,aI hf];exact hs f' a' h' n'
theorem UX{P:Program}{cf:fO}(hk:ji P cf){f:FuncId}{args:ag}{h:Tr O}{n:Nat}{v:V}{h1:Tr O}{n1:Nat}(fJ:f<P.funcs.size)
  (hc:∀E w c9,dI E args c9->Good E h w->qL E n->Calls P f c9.toArray w (jU E h n w (.ret v) h1 n1)):ji P (Ro cf f args h n (v,h1,n1)):=by
 intro f' a' h' n' aat h2 n2 e E w c9 ra g hd;unfold Ro at e;split at e
 . rename_i hf;subst hf;split at e
   . rename_i hq;obtain⟨rfl,rfl,rfl⟩:=hq;simp only[an,aB]at e;obtain⟨rfl,rfl,rfl⟩:=e;exact⟨fun _=>hc E w c9 ra g hd,fun m l s hf _=>absurd fJ (by rw[hf];exact Nat.not_lt.2 (Nat.le_add_right _ _))⟩
   . cases e
 . exact hk f' a' h' n' aat h2 n2 e E w c9 ra g hd
noncomputable def CX.jt{P:Program}(X:CX P){f:FuncId}{args:ag}{h:Tr O}{n:Nat}{v:V}{h1:Tr O}{n1:Nat}(fJ:f<P.funcs.size)
  (hc:∀E w c9,dI E args c9->Good E h w->qL E n->Calls P f c9.toArray w (jU E h n w (.ret v) h1 n1)):CX P:=
 ⟨fC X.cs f args h n (v,h1,n1),Ro X.cf f args h n (v,h1,n1),K8 X.snd f args h n (v,h1,n1),UX X.ok fJ hc⟩
def ze(cs:e9)(f:FuncId)(q:ag->Bool)(args:ag)(h:Tr O)(n:Nat)(r:V×Tr O×Nat):e9:=fun f' a' h' n'=>match Nat.beq f' f&&q a' with
 |true=>some [(⟨[],[],[a'=args/\h'=h/\n'=n]⟩,r)]
 |false=>cs f' a' h' n'
open Classical in
noncomputable def IV(cf:fO)(f:FuncId)(q:ag->Bool)(args:ag)(h:Tr O)(n:Nat)(r:V×Tr O×Nat):fO:=fun f' a' h' n'=>
 if(Nat.beq f' f&&q a')=true then(if a'=args/\h'=h/\n'=n then some (.ret r.1,r.2.1,r.2.2)else none)else cf f' a' h' n'
theorem IW{cs:e9}{cf:fO}(hs:o5 cs cf)(f:FuncId)(q:ag->Bool)(args:ag)(h:Tr O)(n:Nat)(r:V×Tr O×Nat):o5 (ze cs f q args h n r) (IV cf f q args h n r):=by
 intro f' a' h' n';unfold ze IV;cases hb:(Nat.beq f' f&&q a')with
 |true=>
  rw[aG rfl];intro l e;obtain rfl:=ew e;refine⟨⟨_,aq.2 rfl,fun c hc=>by simp at hc⟩,fun e he _ hg=>?_⟩;simp only[aq]at he;subst he;have:a'=args/\h'=h/\n'=n:=hg.2 _ (aq.2 rfl);simp only;rw[aG this];rfl
 |false=>
  rw[aI (by simp)];exact hs f' a' h' n'
theorem Rp{P:Program}{cf:fO}(hk:ji P cf){f:FuncId}{q:ag->Bool}{args:ag}{h:Tr O}{n:Nat}{v:V}{h1:Tr O}{n1:Nat}(fJ:f<P.funcs.size)
  (hc:∀E w c9,dI E args c9->Good E h w->qL E n->Calls P f c9.toArray w (jU E h n w (.ret v) h1 n1)):ji P (IV cf f q args h n (v,h1,n1)):=by
 intro f' a' h' n' aat h2 n2 e E w c9 ra g hd;unfold IV at e;split at e
 . rename_i hf;simp only[aC]at hf;have hf:=aD hf.1;subst hf;split at e
   . rename_i hq;obtain⟨rfl,rfl,rfl⟩:=hq;simp only[an,aB]at e;obtain⟨rfl,rfl,rfl⟩:=e;exact⟨fun _=>hc E w c9 ra g hd,fun m l s hf _=>absurd fJ (by rw[hf];exact Nat.not_lt.2 (Nat.le_add_right _ _))⟩
   . cases e
 . exact hk f' a' h' n' aat h2 n2 e E w c9 ra g hd
noncomputable def CX.K9{P:Program}(X:CX P)(q:ag->Bool){f:FuncId}{args:ag}{h:Tr O}{n:Nat}{v:V}{h1:Tr O}{n1:Nat}(fJ:f<P.funcs.size)
  (hc:∀E w c9,dI E args c9->Good E h w->qL E n->Calls P f c9.toArray w (jU E h n w (.ret v) h1 n1)):CX P:=
 ⟨ze X.cs f q args h n (v,h1,n1),IV X.cf f q args h n (v,h1,n1),IW X.snd f q args h n (v,h1,n1),Rp X.ok fJ hc⟩
def cU(P:Program)(f:FuncId)(args:ag)(h:Tr O)(n:Nat)(v:V)(h1:Tr O)(n1:Nat):Prop:=∀E w c9,dI E args c9->Good E h w->qL E n->Calls P f c9.toArray w (jU E h n w (.ret v) h1 n1)
theorem BP:∀(l:af) (t:Tr O) (j:Nat) (o:O),(∀p∈l,p.1<fN)->(hL.go t l).get j=some o->t.get j=some o\/(j,o)∈l
 | [],t,j,o,_,h=>.inl h
 |(k,v)::l,t,j,o,hl,h=>by
  rcases BP l _ j o (fun q hq=>hl q (by simp[hq])) h with q|q
  . rw[Tr.eS _ _ _ (hl (k,v) (by simp))]at q;split at q
    . rename_i z;simp only[an]at q;subst z;subst q;exact .inr (by simp)
    . exact .inl q
  . exact .inr (by simp[q])
theorem Ay{ns:List (Option Nat)}{h:Tr O}{l:af}(hl:∀p∈l,p.1<fN)(h1:∀p∈jN,ns.getD p.2 none=some p.2)(h2:nr ns=true)
  (h3:∀j m,ns.getD j none=some m->(∃p∈jN,p.2=m)\/h.get m≠none) (h4:∀p∈l,∃m o,ns.getD p.1 none=some m/\h.get m=some o/\o.rn (mu ns)=some p.2):vn ns h (hL l):=by
 refine⟨h1,h2,h3,fun j o1 hj=>?_⟩;rcases BP l .nil j o1 hl hj with q|q
 . simp[Tr.get]at q
 . exact h4 _ q
open Go.ChangeMaps (setBlock)
structure La(φ:Nat->Option (Array Value))(kd:Option IntKind)(es:ae)(w:World)(r b:Nat)(left:ae):Prop where
 ex:∃seen fW eo,w.heap[r]? =some (.mapIter (some b) eo seen eo)/\w.heap[b]? =some (.map fW eo)/\jR φ kd es fW.toList eo/\∃l,List.Perm l left/\jQ φ l (leftOf fW seen).toList
theorem La.mono{φ Mo:Nat->Option (Array Value)}{kd:Option IntKind}{es left:ae}{w w':World}{r b:Nat}(kU:∀b c,φ b=some c->Mo b=some c)(hr:w'.heap[r]? =w.heap[r]?)(hb:w'.heap[b]? =w.heap[b]?)(i:La φ kd es w r b left):La Mo kd es w' r b left:=by
 obtain⟨seen,fW,eo,h1,h2,h3,l,h4,h5⟩:=i.ex;exact⟨seen,fW,eo,hr.trans h1,hb.trans h2,h3.mono kU,l,h4,xk kU _ _ h5⟩
theorem Fg{φ:Nat->Option (Array Value)}:∀(a1:List MapEntry) {e:MapEntry} {a2:List MapEntry} {l:ae},jQ φ l (a1++e::a2)->∃l1 c l2,l=l1++c::l2/\jQ φ l1 a1/\kO φ c.1 e.key/\kO φ c.2 e.val/\jQ φ l2 a2
 | [],e,a2,l,h=>by
   cases l with
   |nil=>have h:([]++e::a2:List MapEntry)=[]:=h;cases h
   |cons c l2=>
    obtain⟨y,ys,h1,h2,h3,h4⟩:=h;simp only[cD,List.cons.injEq]at h4;obtain⟨rfl,rfl⟩:=h4;exact⟨[],c,l2,rfl,rfl,h1,h2,h3⟩
 |x::a1,e,a2,l,h=>by
  cases l with
  |nil=>have h:(x::a1++e::a2:List MapEntry)=[]:=h;cases h
  |cons c0 l0=>
   obtain⟨y,ys,h1,h2,h3,h4⟩:=h;simp only[List.cons_append,List.cons.injEq]at h4;obtain⟨rfl,rfl⟩:=h4;obtain⟨l1,c,l2,rfl,k1,k2,k3,k4⟩:=Fg a1 h3;exact⟨c0::l1,c,l2,rfl,⟨_,_,h1,h2,k1,rfl⟩,k2,k3,k4⟩
theorem Fh{φ:Nat->Option (Array Value)}:∀{l1:ae} {a1:List MapEntry} {l2:ae} {a2:List MapEntry},jQ φ l1 a1->jQ φ l2 a2->jQ φ (l1++l2) (a1++a2)
 | [],a1,l2,a2,h1,h2=>by have h1:a1=[]:=h1;subst h1;exact h2
 |c::l1,a1,l2,a2,h1,h2=>by
  obtain⟨y,ys,k1,k2,k3,rfl⟩:=h1;exact⟨y,ys++a2,k1,k2,Fh k3 h2,rfl⟩
theorem OC{φ:Nat->Option (Array Value)}{l:ae}(h:jQ φ l []):l=[]:=by
 cases l with
 |nil=>rfl
 |cons c l=>obtain⟨_,_,_,_,_,h⟩:=h;cases h
section
variable(es:Array MapEntry)(seen:Array Nat)
theorem oL:(leftOf es seen).toList=es.toList.filter fun e=>!seen.contains e.born:=by
 simp[leftOf]
theorem IX(b:Nat):(leftOf es (seen.push b)).toList=(leftOf es seen).toList.filter fun e=>!(e.born==b):=by
 rw[oL,oL,List.filter_filter];congr 1;funext e;have:(e.born==b)=decide (e.born=b):=rfl;rw[this];simp[Bool.and_comm]
end
theorem UY{P:Program}{φ:Nat->Option (Array Value)}{kd:Option IntKind}{es left:ae}{w:World}{r b:Nat}(hrb:r≠b)(i:La φ kd es w r b left)(ty:TypeId):
  (left=[]/\(Instr.next (.pointer (some ⟨r,0,none⟩)) false ty).run P w= .ok (.tuple #[.bool false]) w) \/
  ∃c ko k v w',List.Perm left (c::ko)/\kO φ c.1 k/\kO φ c.2 v/\(Instr.next (.pointer (some ⟨r,0,none⟩)) false ty).run P w= .ok (.tuple #[.bool true,k,v]) w'/\
   (∀w2:World,w2.heap[r]? =w'.heap[r]?->w2.heap[b]? =w'.heap[b]?->(Instr.entry (.pointer (some ⟨r,0,none⟩))).run P w2= .ok (.tuple #[k,v]) w2)/\La φ kd es w' r b ko/\w'.heap.size=w.heap.size/\w'.tape=w.tape/\w'.os=w.os/\w'.output=w.output/\∀x,x≠r->w'.heap[x]? =w.heap[x]?:=by
 obtain⟨seen,fW,eo,hr,hb,hM,l,hl,hm⟩:=i.ex;rcases run_next_at (P:=P) w ty r b eo eo seen fW eo hr hb (fun x hx=>hM.old x hx) (aA _)with⟨h0,fM⟩|⟨e,he,w1,Hx,fM⟩
 . left;have:(leftOf fW seen).toList=[]:=by rw[<- Array.length_toList]at h0;exact List.eq_nil_of_length_eq_zero h0
   rw[this]at hm;have:=OC hm;subst this;exact⟨hl.symm.eq_nil,fM⟩
 . right;obtain⟨a1,a2,ha⟩:=List.append_of_mem he;have Km:((leftOf fW seen).toList.map (·.born)).Nodup:=by
    rw[oL];exact hM.born.sublist (List.filter_sublist.map _)
   rw[ha]at hm;obtain⟨l1,c,l2,rfl,k1,k2,k3,k4⟩:=Fg a1 hm;have aau:w1.heap=w.heap:=by rcases Hx with rfl|rfl<;>rfl
   have aav:w1.tape=w.tape/\w1.os=w.os/\w1.output=w.output:=by rcases Hx with rfl|rfl<;>exact⟨rfl,rfl,rfl⟩
   have alh:r<w.heap.size:=(aQ.1 hr).1;have sX:(setBlock w1 r (.mapIter (some b) eo (seen.push e.born) eo)).heap[r]? =some (.mapIter (some b) eo (seen.push e.born) eo):=by
    simp[setBlock,aau,alh]
   have aeG:∀x,x≠r->(setBlock w1 r (.mapIter (some b) eo (seen.push e.born) eo)).heap[x]? =w.heap[x]?:=by
    intro x hx;simp only[setBlock,aau];rw[Array.getElem?_setIfInBounds_ne (Ne.symm hx)]
   have hbb:=(aeG b (Ne.symm hrb)).trans hb;refine⟨c,l1++l2,e.key,e.val,_,?_,k2,k3,fM,?_,⟨seen.push e.born,fW,eo,sX,hbb,hM,l1++l2,.refl _,?_⟩,by simp[setBlock,aau],aav.1,aav.2.1,aav.2.2,aeG⟩
   . exact hl.symm.trans List.perm_middle
   . have ali:e∈fW.toList:=by
      rw[oL]at he;exact(List.mem_filter.1 he).1
     exact fun w2 g1 g2=>run_entry_at w2 r b eo seen fW eo e (g1.trans sX) (g2.trans hbb) ali hM.born
   . rw[IX,ha];rw[ha,aZ,bW]at Km;have aeH:=List.nodup_append.1 Km;have f1:a1.filter (fun x=>!(x.born==e.born))=a1:=by
      rw[List.filter_eq_self];intro x hx;have:x.born≠e.born:=fun q=>aeH.2.2 x.born (bB.2 ⟨x,hx,rfl⟩) e.born (by simp) q;simp[this]
     have f2:a2.filter (fun x=>!(x.born==e.born))=a2:=by
      rw[List.filter_eq_self];intro x hx;have h3:=(cg.1 aeH.2.1).1;have:x.born≠e.born:=fun q=>h3 (by rw[<- q];exact bB.2 ⟨x,hx,rfl⟩);simp[this]
     rw[List.filter_append,f1,List.filter_cons];simp only[cE,Bool.not_true,aO,cG,f2];exact Fh k1 k4
section
variable{P:Program}{F:Fence}{n:Nat}{ops:Array Oper}{Q:Exit->Act->World->Prop}{a:Act}{w:World}{rest:List Oper}{o:Oper}
theorem OD{t k e:TypeId}{x:Operand}{b:Nat}{es:Array MapEntry}{eo:Nat}(hg:o.guard=none)(oW:o.op= .range t x)(hu:P.underlying t=some (.map k e))(hx:a.eval x= .map (some b))(hb:w.heap[b]? =some (.map es eo))
  (hK:wpListIn F n P ops Q rest (a.put o.dst (.pointer (some ⟨w.heap.size,0,none⟩))) (w.alloc (.mapIter (some b) eo #[] eo))):wpListIn F n P ops Q (o::rest) a w:=by
 refine wpListIn_plain hg fun K' UZ=>?_;have fM:=run_range_map (P:=P) w t k e b es eo hu hb;unfold Oper.wpIn;refine⟨by simp[Oper.about,oW],?_⟩;rw[lz (by rw[oW];intro c vX;cases vX)];simp[execOp,oW,hx,fM,Result.andThen];exact UZ _ _ hK
theorem IY{x:Operand}{r:Nat}{v:Value}{w':World}(hg:o.guard=none)(oW:o.op= .next x false)(hx:a.eval x= .pointer (some ⟨r,0,none⟩))(fM:(Instr.next (.pointer (some ⟨r,0,none⟩)) false o.type).run P w= .ok v w')
  (hK:wpListIn F n P ops Q rest (a.put o.dst v) w'):wpListIn F n P ops Q (o::rest) a w:=by
 refine wpListIn_plain hg fun K' UZ=>?_;unfold Oper.wpIn;refine⟨by simp[Oper.about,oW],?_⟩;rw[lz (by rw[oW];intro c vX;cases vX)];simp[execOp,oW,hx,fM,Result.andThen];exact UZ _ _ hK
theorem OE{x:Operand}{r:Nat}{v:Value}(hg:o.guard=none)(oW:o.op= .entry x)(hx:a.eval x= .pointer (some ⟨r,0,none⟩))(fM:(Instr.entry (.pointer (some ⟨r,0,none⟩))).run P w= .ok v w)
  (hK:wpListIn F n P ops Q rest (a.put o.dst v) w):wpListIn F n P ops Q (o::rest) a w:=by
 refine wpListIn_plain hg fun K' UZ=>?_;unfold Oper.wpIn;refine⟨by simp[Oper.about,oW],?_⟩;rw[lz (by rw[oW];intro c vX;cases vX)];simp[execOp,oW,hx,fM,Result.andThen];exact UZ _ _ hK
end
theorem iy.iter{E:Env}{h:Tr O}{w:World}{n m:Nat}{ob:Obj}(g:Good E h w)(hn:E.ι n=none)(yS:m<fN):iy E h w (E.put n w.heap.size 0 0) (h.set m none) (w.alloc ob):=by
 have uL:∀m b s,E.ι m=some (b,s)->b≠w.heap.size:=fun m b s e hb=>by have:=g.mU m b s e;omega
 have kC:E.le (E.put n w.heap.size 0 0):=Env.rz hn fun m x t e hx=>absurd hx (uL m x t e);have BD:∀b c,E.φ b=some c->b<w.heap.size:=fun b c q=>by
  obtain⟨⟨el,fz,e⟩,_⟩:=g.gM b c q;exact(aQ.1 e).1
 have hs:∀k o,(h.set m none).get k=some o->h.get k=some o:=by
  intro k o hk;rw[Tr.eS _ _ _ yS]at hk;split at hk
  . cases hk
  . exact hk
 have fP:∀k,(h.set m none).get k≠none->k≠n:=by
  rintro k hk rfl;obtain⟨o,ho⟩:=bg.1 hk;obtain⟨b,s,e,_⟩:=g.rel k o (hs k o ho);rw[hn]at e;cases e
 refine⟨kC,⟨fun k o hk=>?_,fun k k' b s s' EH hk uj e e'=>?_,fun k b s e=>?_,g.jm.mono kC,fun b c q=>⟨by rw[jD (BD b c q)];exact(g.gM b c q).1,fun k s hk e=>?_⟩⟩,by simp,rfl,rfl,rfl,fun b hb _=>jD hb,fun k b s hk e hb=>?_,fun _ _ q=>.inl q⟩
 . obtain⟨b,s,h1,h2⟩:=g.rel k o (hs k o hk);exact⟨b,s,by rw[Env.fB (fP k (by rw[hk];simp))];exact h1,ik kC (kC.nm k b s h1).2 (jD (g.mU k b s h1)) h2⟩
 . rw[Env.fB (fP k hk.live)]at e;rw[Env.fB (fP k' uj)]at e';exact g.inj k k' b s s' EH (gr hs hk) (nc hs uj) e e'
 . by_cases a:k=n
   . subst a;rw[Env.eY]at e;cases e;simp
   . rw[Env.fB a]at e;have:=g.mU k b s e;simp;omega
 . rw[Env.fB (fP k hk.live)]at e;exact(g.gM b c q).2 k s (gr hs hk) e
 . rw[Env.fB (fP k hk)]at e;exact⟨k,s,nc hs hk,e,gr hs⟩
theorem lH.weaken{n0 n1:Nat}(hn:n0<=n1){E E':Env}{h h':Tr O}{w w':World}(u:lH n1 E h w E' h' w'):lH n0 E h w E' h' w':=
 ⟨fun m b s hm=>u.le m b s be,fun m hm=>u.low m be,u.fz,u.good,u.size,u.tape,u.os,u.output,u.keep,u.sV,u.DU⟩
structure wX(n0:Nat)(E0:Env)(h0:Tr O)(w0:World)(m mi:Nat)(kd:Option IntKind)(es left:ae)(r b:Nat)(E:Env)(h:Tr O)(w:World):Prop where
 qo:lH n0 E0 h0 w0 E h w
 it:La E.φ kd es w r b left
 em:E.ι m=some (b,0)
 ei:E.ι mi=some (r,0)
 hr:∀k z,h.get k≠none->E.ι k≠some (r,z)
 hb:∀k z,h.get k≠none->E.ι k≠some (b,z)
 rlt:r<w.heap.size
 blt:b<w.heap.size
 r0:w0.heap.size<=r
 ne:r≠b
theorem wX.step{n0 n1:Nat}{E0:Env}{h0:Tr O}{w0:World}{m mi:Nat}{kd:Option IntKind}{es left:ae}{r b:Nat}{E E':Env}{h h':Tr O}{w w':World}(hn:n0<=n1)(hm:m<n1)(hi:mi<n1)(c:wX n0 E0 h0 w0 m mi kd es left r b E h w)
  (u:lH n1 E h w E' h' w'):wX n0 E0 h0 w0 m mi kd es left r b E' h' w' where
 qo:=c.qo.trans (u.weaken hn)
 it:=c.it.mono u.fz (u.keep r c.rlt fun k z hk=>c.hr k z hk.live) (u.keep b c.blt fun k z hk=>c.hb k z hk.live)
 em:=(u.low m hm).trans c.em
 ei:=(u.low mi hi).trans c.ei
 hr:=fun k z hk e=>by
  obtain⟨m0,s0,q1,q2,_⟩:=u.sV k r z hk e c.rlt;exact c.hr m0 s0 q1 q2
 hb:=fun k z hk e=>by
  obtain⟨m0,s0,q1,q2,_⟩:=u.sV k b z hk e c.blt;exact c.hb m0 s0 q1 q2
 rlt:=bD c.rlt u.size
 blt:=bD c.blt u.size
 r0:=c.r0
 ne:=c.ne
theorem wX.aeI{n0:Nat}{E0:Env}{h0:Tr O}{w0:World}{m mi:Nat}{kd:Option IntKind}{es left ko:ae}{r b:Nat}{E:Env}{h:Tr O}{w w':World}(c:wX n0 E0 h0 w0 m mi kd es left r b E h w)(i:La E.φ kd es w' r b ko)
  (h1:w'.heap.size=w.heap.size) (h2:w'.tape=w.tape) (h3:w'.os=w.os) (h4:w'.output=w.output) (h5:∀x,x≠r->w'.heap[x]? =w.heap[x]?):wX n0 E0 h0 w0 m mi kd es ko r b E h w':=by
 have fP:∀k b' z,h.get k≠none->E.ι k=some (b',z)->b'≠r:=fun k b' z hk e q=>c.hr k z hk (q▸e);have g:=c.qo.good;have ya:∀b' cc,E.φ b'=some cc->b'≠r:=by
  rintro b' cc q rfl;obtain⟨⟨el,fz,e⟩,_⟩:=g.gM _ cc q;obtain⟨seen,fW,eo,k1,_⟩:=c.it.ex;rw[k1]at e;cases e
 refine⟨⟨c.qo.le,c.qo.low,c.qo.fz,⟨fun k o hk=>?_,g.inj,fun k b' z e=>by rw[h1];exact g.mU k b' z e,g.jm,fun b' cc q=>⟨by rw[h5 b' (ya b' cc q)];exact(g.gM b' cc q).1,(g.gM b' cc q).2⟩⟩,by rw[h1];exact c.qo.size,h2.trans c.qo.tape,h3.trans c.qo.os,h4.trans c.qo.output,fun x hx rU=>?_,c.qo.sV,c.qo.DU⟩,i,c.em,c.ei,c.hr,c.hb,by rw[h1];exact c.rlt,by rw[h1];exact c.blt,c.r0,c.ne⟩
 . obtain⟨b',z,e,q⟩:=g.rel k o hk;exact⟨b',z,e,ik E.le_refl rfl (h5 b' (fP k b' z (by rw[hk];simp) e)) q⟩
 . rw[h5 x (by have:=c.r0;omega)];exact c.qo.keep x hx rU
def OF(m:Nat)(kd:Option IntKind)(es:ae)(s:St):St:={ s with h:=s.h.set m (some (.dy kd es)) }
theorem wX.back{n0:Nat}{E0:Env}{h0:Tr O}{w0:World}{m mi:Nat}{kd:Option IntKind}{es left:ae}{r b:Nat}{E:Env}{h:Tr O}{w:World}(c:wX n0 E0 h0 w0 m mi kd es left r b E h w)(hm0:eC h0 m)(he0:E0.ι m=some (b,0))(yS:m<fN):
  lH n0 E0 h0 w0 E (h.set m (some (.dy kd es))) w:=by
 have g:=c.qo.good;obtain⟨seen,fW,eo,k1,k2,k3,_⟩:=c.it.ex;have kH:∀k,(h.set m (some (O.dy kd es))).get k=if k=m then some (.dy kd es)else h.get k:=fun k=>Tr.eS _ _ _ yS
 have tZ:∀k,k≠m->eC (h.set m (some (O.dy kd es))) k->eC h k:=fun k hk ⟨o,q1,q2⟩=>⟨o,by rw[kH,aI hk]at q1;exact q1,q2⟩;have ya:∀b' cc,E.φ b'=some cc->b'≠b:=by
  rintro b' cc q rfl;obtain⟨⟨el,fz,e⟩,_⟩:=g.gM _ cc q;rw[k2]at e;cases e
 refine⟨c.qo.le,c.qo.low,c.qo.fz,⟨fun k o hk=>?_,fun k k' b' z z' EH hk uj e e'=>?_,g.mU,g.jm,fun b' cc q=>⟨(g.gM b' cc q).1,fun k z hk e=>?_⟩⟩,c.qo.size,c.qo.tape,c.qo.os,c.qo.output,c.qo.keep,fun k b' z hk e Gi=>?_,c.qo.DU⟩
 . rw[kH]at hk;split at hk
   . rename_i q;subst q;cases hk;exact⟨b,0,c.em,rfl,fW,eo,k2,k3⟩
   . exact g.rel k o hk
 . by_cases q:k=m
   . subst q;rw[c.em]at e;cases e;have uj:h.get k'≠none:=by rw[kH,aI (Ne.symm EH)]at uj;exact uj
     exact c.hb k' z' uj e'
   . by_cases q':k'=m
     . subst q';rw[c.em]at e';cases e';exact c.hb k z (tZ k q hk).live e
     . exact g.inj k k' b' z z' EH (tZ k q hk) (by rw[kH,aI q']at uj;exact uj) e e'
 . by_cases q':k=m
   . subst q';rw[c.em]at e;cases e;exact ya _ cc q rfl
   . exact(g.gM b' cc q).2 k z (tZ k q' hk) e
 . by_cases q':k=m
   . subst q';rw[c.em]at e;cases e;exact⟨k,0,hm0.live,he0,fun _=>hm0⟩
   . obtain⟨m0,s0,p1,p2,p3⟩:=c.qo.sV k b' z (by rw[kH,aI q']at hk;exact hk) e Gi;exact⟨m0,s0,p1,p2,fun x=>p3 (tZ k q' x)⟩
def U0:fO:=fun _ _ _ _=>none
theorem GM(P:Program):ji P U0:=fun _ _ _ _ _ _ _ e=>by cases e
structure qZ where
 g0:Nat
 g1:Nat
 g2:Nat
 o0:Oper
 oR:Oper
 oN:Oper
 oX:Oper
 oE:Oper
 post:List Oper
 bl:Nat
 b1:Nat
 tok:Operand
 rest:Code
def qZ.code(m:qZ):Code:=.seq (.region m.g0 #[m.o0,m.oR] false) (.block m.bl (.loop (.seq (.region m.g1 #[m.oN,m.oX] false) (.seq (.cond m.tok .skip (.exit m.bl)) (.block m.b1 (.seq (.region m.g2 (m.oE::m.post).toArray false) m.rest))))))
structure su(P:Program)(N:Nat)(c:qZ)(xR:Operand)(tI:Nat):Prop where
 g0:c.o0.guard=none
 gR:c.oR.guard=none
 gN:c.oN.guard=none
 gE:c.oE.guard=none
 opR:∃ty k e,c.oR.op= .range ty xR/\P.underlying ty=some (.map k e)
 dR:c.oR.dst=some tI
 opN:c.oN.op= .next (.tmp tI) false
 opE:c.oE.op= .entry (.tmp tI)
 ok:eU N c.code=true
 tI:tI<fN
def Lb(n0 N:Nat)(s S:St):Prop:=∀E a w,jV E N s a w->n0<=s.n->n0<=S.n/\∃E2,jV E2 N S a w/\lH n0 E s.h w E2 S.h w
theorem Lb.norm{n0 N:Nat}{L:List Nat}{s S:St}(e:eX n0 L s=some S):Lb n0 N s S:=fun _ _ _ r _=>(qX e r).2
theorem Lb.trans{n0 N:Nat}{a b c:St}(h1:Lb n0 N a b)(h2:Lb n0 N b c):Lb n0 N a c:=fun E x w r hn=>by
 obtain⟨xn,E2,r2,u2⟩:=h1 E x w r hn;obtain⟨Ky,E3,r3,u3⟩:=h2 E2 x w r2 xn;exact⟨Ky,E3,r3,u2.trans u3⟩
theorem Lb.mem{n0 N:Nat}{s:St}{h2:Tr O}(hg:∀E w,Good E s.h w->Good E h2 w/\∀m,(h2.get m≠none↔s.h.get m≠none)/\(eC h2 m->eC s.h m)):Lb n0 N s { s with h:=h2 }:=fun E a w r hn=>by
 obtain⟨g2,k2⟩:=hg E w r.good;exact⟨hn,E,⟨g2,r.nZ,r.fr,r.size,r.gz⟩,⟨fun _ _ _ _ e=>⟨e,rfl⟩,fun _ _=>rfl,fun _ _ q=>q,g2,aA _,rfl,rfl,rfl,fun _ _ _=>rfl,fun m b s1 hm e1 _=>⟨m,s1,(k2 m).1.1 hm,e1,(k2 m).2⟩,fun _ _ q=>.inl q⟩⟩
theorem Lb.deep{n0 N:Nat}{s S:St}(l:List Nat)(e:C4 l s=some S):Lb n0 N s S:=by
 unfold C4 at e;split at e
 case h_2=>cases e
 rename_i h2 hh;obtain rfl:=ew e;exact Lb.mem fun E w g=>qF l s.h h2 hh g
theorem IZ{P:Program}{n0 N:Nat}{c:qZ}{s:St}{Q:Exit->St->Prop}{xR:Operand}{tI m:Nat}{kd:Option IntKind}{es:ae}{v0:V}{kg zS:Tr V}(hm:P.follows .mixedOrders=true)(hc:su P N c xR tI)
  (h0:dD P c.o0 s.fr s.h s.n=some (.val v0 s.h s.n)) (hp0:iZ s.fr c.o0.dst v0=some kg) (hx:iK kg xR=some (.map (some m))) (Uf:s.h.get m=some (.dy kd es)) (yS:m<fN) (hp1:iZ kg c.oR.dst (.ptr (some (s.n,0)))=some zS)
  (J:ae->St->Prop) (h1:J [] { fr:=zS,h:=s.h.set m none,n:=s.n+1,gz:=s.gz })
  (Lc:∀iD left s1,J iD s1->List.Perm (iD++left) es->∃S,Lb (s.n+1) N s1 S/\S.fr.get tI=some (.ptr (some (s.n,0)))/\
   (left=[]->∃xB sD,iZ S.fr c.oN.dst (.ef [.bool false])=some xB/\je P U0 #[c.oN,c.oX] [c.oX] { S with fr:=xB }=some (.normal,sD)/\iK sD.fr c.tok=some (.bool false)/\Q .normal (OF m kd es sD))/\
   (∀e ko,List.Perm left (e::ko)->∃xB s2 XA s4,iZ S.fr c.oN.dst (.ef [.bool true,e.1.iL,e.2.iL])=some xB/\je P U0 #[c.oN,c.oX] [c.oX] { S with fr:=xB }=some (.normal,s2)/\iK s2.fr c.tok=some (.bool true)/\s2.fr.get tI=some (.ptr (some (s.n,0)))/\s2.h=S.h/\s2.n=S.n/\
    iZ s2.fr c.oE.dst (.ef [e.1.iL,e.2.iL])=some XA/\je P U0 (c.oE::c.post).toArray c.post { s2 with fr:=XA }=some (.normal,s4)/\
    TG P (s.n+1) N c.rest s4 (mj c.b1 (andThen (J (iD++[e])) (mj c.bl fun y s'=>Q y (OF m kd es s')))))):TG P n0 N c.code s Q:=by
 intro E a w K r hn k;have ic:=hc.ok;unfold qZ.code at ic;simp only[eU,aC]at ic;obtain⟨⟨hA,_⟩,⟨hB,_⟩,_,⟨hC,_⟩,asQ⟩:=ic;have ud:∀{o:Oper},(match o.dst with|some d=>decide (d<N)|none=>true)=true->nj N o.dst:=by
  intro o h d hd;rw[hd]at h;exact aH h
 have hd0:nj N c.o0.dst:=ud (bn.1 hA c.o0 (by simp));have hdR:nj N c.oR.dst:=ud (bn.1 hA c.oR (by simp));have hdN:nj N c.oN.dst:=ud (bn.1 hB c.oN (by simp));have hdX:nj N c.oX.dst:=ud (bn.1 hB c.oX (by simp));have alk:nj N c.oE.dst:=ud (bn.1 hC c.oE (by simp));have hdP:∀o∈c.post,nj N o.dst:=fun o ho=>ud (bn.1 hC o (by simp[ho]));have sz:∀{E:Env} {s:St} {a:Act} {w:World} {o:Oper},jV E N s a w->nj N o.dst->nj a.tmps.size o.dst:=by
  intro E s a w o r h;rw[r.size];exact h
 obtain⟨ty,kt,et,alm,hu⟩:=hc.opR;unfold qZ.code;refine wp_seq ((wpIn_wide (n:=0)).1 (wpIn_region_list (F:=fz none) ?_));show wpListIn (fz none) 0 P _ _ [c.o0,c.oR] a w;refine wpListIn_plain hc.g0 fun K' UZ=>?_;refine Ct r.good (r.nZ _ (aA _)) (fun y _=>iG r.good.jm r.fr y) h0 fun E1 w1 v1 q1 q2 q3 q4=>UZ _ _ ?_
 obtain rfl:E1=E:=by rcases q4 with⟨_,h⟩|h
                     . exact h
                     . omega
 have rf:yM E1 kg (a.put c.o0.dst v1):=jA r.fr hp0 q1 (sz r hd0);obtain⟨b,e1,hxv⟩:∃b,E1.ι m=some (b,0)/\(a.put c.o0.dst v1).eval xR= .map (some b):=by
  have:=iG q2.good.jm rf xR _ hx;obtain⟨b,h1,h2⟩:=this;exact⟨b,h1,h2⟩
 obtain⟨b',z',e2,hz,fW,eo,hb,hM⟩:=q2.good.rel m _ Uf;rw[e1]at e2;simp only[an,aB]at e2;obtain⟨rfl,_⟩:=e2;refine OD hc.gR alm hu hxv hb ?_;have u0:iy E1 s.h w E1 s.h w1:=q2;have aeJ:E1.ι s.n=none:=r.nZ _ (aA _);have uI:=iy.iter (ob:=.mapIter (some b) eo #[] eo) q2.good aeJ yS;have u1:=u0.trans uI;have Ka:m<s.n:=by
  rcases bN m s.n with q|q
  . exact q
  . have:=r.nZ m q;rw[e1]at this;cases this
 have aln:b<w1.heap.size:=q2.good.mU m b 0 e1;have EU:∀k,k<s.n->(E1.put s.n w1.heap.size 0 0).ι k=E1.ι k:=fun k hk=>Env.fB be;have alo:wX n0 E1 s.h w m s.n kd es es w1.heap.size b (E1.put s.n w1.heap.size 0 0) (s.h.set m none) (w1.alloc (.mapIter (some b) eo #[] eo)):=by
  have hkn:∀k,(s.h.set m none).get k≠none->s.h.get k≠none/\k≠m:=by
   intro k hk;rw[Tr.eS _ _ _ yS]at hk;split at hk
   . exact absurd rfl hk
   . rename_i z;exact⟨hk,z⟩
  have aeK:∀k z b',s.h.get k≠none->(E1.put s.n w1.heap.size 0 0).ι k=some (b',z)->E1.ι k=some (b',z):=by
   intro k z b' hk e;by_cases q:k=s.n
   . subst q;obtain⟨o,ho⟩:=bg.1 hk;obtain⟨b2,z2,e2,_⟩:=r.good.rel _ o ho;rw[aeJ]at e2;cases e2
   . rwa [Env.fB q]at e
  refine⟨.of u1 EU hn,⟨⟨#[],fW,eo,heap_alloc_new,by rw[jD aln];exact hb,hM,?_⟩⟩,by rw[EU m Ka];exact e1,Env.eY,fun k z hk e=>?_,fun k z hk e=>?_,by simp,by simp;omega,u0.size,be⟩
  . obtain⟨l,p1,p2⟩:=hM.row;refine⟨l,p1,?_⟩;have:(leftOf fW #[]).toList=fW.toList:=by rw[oL];simp
    rw[this];exact p2
  . have:=q2.good.mU k _ _ (aeK k z _ (hkn k hk).1 e);omega
  . obtain⟨k1,k2⟩:=hkn k hk;exact q2.good.inj m k b 0 z (Ne.symm k2) ⟨_,Uf,rfl⟩ k1 e1 (aeK k z _ k1 e)
 have Q4:eC s.h m:=⟨_,Uf,rfl⟩;have r1:jV (E1.put s.n w1.heap.size 0 0) N { fr:=zS,h:=s.h.set m none,n:=s.n+1,gz:=s.gz } ((a.put c.o0.dst v1).put c.oR.dst (.pointer (some ⟨w1.heap.size,0,none⟩))) (w1.alloc (.mapIter (some b) eo #[] eo)):=by
  refine⟨uI.good,fun k hk=>?_,jA (jT uI.le rf) hp1 ⟨w1.heap.size,0,Env.eY,rfl⟩ (by rw[iF,r.size];exact hdR),by rw[iF,iF];exact r.size,by rw[gA,gA];exact iU uI.le _ _ r.gz⟩;have hk:s.n+1<=k:=hk;rw[Env.fB be];exact r.nZ k (by show s.n<=k;omega)
 show(Code.block _ _).wp P K _ _;refine wp_block (wp_loop_rounds (es.length+1) ?_);have key:∀(nn:Nat) (iD left:ae) (s1:St) (E:Env) (a:Act) (w2:World),left.length<nn->List.Perm (iD++left) es->J iD s1->s.n+1<=s1.n->jV E N s1 a w2->wX n0 E1 s.h w m s.n kd es left w1.heap.size b E s1.h w2->
  Code.rounds P (.seq (.region c.g1 #[c.oN,c.oX] false) (.seq (.cond c.tok .skip (.exit c.bl)) (.block c.b1 (.seq (.region c.g2 (c.oE::c.post).toArray false) c.rest)))) (Exit.inBlock c.bl K) nn a w2:=by
  intro nn
  induction nn with
  |zero=>intro iD left s1 E a w2 hl;omega
  |succ nn ih=>
   intro iD left s1 E a w2 hl Fi hJ DW r1 cx;rw[rounds_succ];obtain⟨S,hS,ya,aeL,I0⟩:=Lc iD left s1 hJ Fi;obtain⟨xn,E2,r2,u2⟩:=hS _ _ _ r1 DW;have cx:=cx.step (n1:=s.n+1) be be be u2;have hev:∀{E:Env} {S:St} {a:Act} {w:World},jV E N S a w->E.ι s.n=some (w1.heap.size,0)->S.fr.get tI=some (.ptr (some (s.n,0)))->a.eval (.tmp tI)= .pointer (some ⟨w1.heap.size,0,none⟩):=by
    intro E S a w r e hf;obtain⟨x',g1,b',z',g2,g3⟩:=r.fr tI _ hf;rw[e]at g2;simp only[an,aB]at g2;obtain⟨rfl,rfl⟩:=g2;simp only[Act.eval,b7,g1,Option.getD_some];exact g3
   refine wp_seq ((wpIn_wide (n:=0)).1 (wpIn_region_list (F:=fz none) ?_));show wpListIn (fz none) 0 P _ _ [c.oN,c.oX] a w2;rcases UY (P:=P) cx.ne cx.it c.oN.type with⟨vR,fM⟩|⟨e,ko,kk,vv,w3,hp,hk,hv,fM,wH,it',z1,z2,z3,z4,z5⟩
   . obtain⟨xB,sD,p1,p2,p3,p4⟩:=aeL vR;refine IY hc.gN hc.opN (hev r2 cx.ei ya) fM ?_;have r3:jV E2 N { S with fr:=xB } (a.put c.oN.dst (.tuple #[.bool false])) w2:=⟨r2.good,r2.nZ,jA r2.fr p1 ⟨[.bool false],⟨_,[],rfl,rfl,rfl⟩,rfl⟩ (sz r2 hdN),by rw[iF];exact r2.size,by rw[gA];exact r2.gz⟩;refine kL (uT:=none) (GM P) [c.oX] _ .normal sD (.inl rfl) (fun o ho=>by rw[aq]at ho;subst ho;exact hdX) p2 E2 _ w2 _ r3 ?_;intro E' a' w' x' u fK pC r' sM;cases x'<;>first|exact sM.elim|skip
     have Ky:s.n+1<=sD.n:=bU xn pC;have cx2:=cx.step (n1:=s.n+1) be be be (lH.of u fK xn);show(Code.seq (.cond c.tok .skip (.exit c.bl)) _).wp P _ a' w';refine wp_seq (wp_cond_false (oD r'.good.jm r'.fr p3) (wp_exit ?_));show Exit.inBlock c.bl K (.exit c.bl) a' w';simp only[Exit.inBlock,if_true];have ub:=cx2.back Q4 e1 yS;exact k .normal _ E' a' w' p4 ub (by show n0<=sD.n;omega) ⟨ub.good,r'.nZ,r'.fr,r'.size,r'.gz⟩
   . obtain⟨xB,s2,XA,s4,p1,p2,p3,p4,p5,p6,p7,p8,hT⟩:=I0 e ko hp;refine IY hc.gN hc.opN (hev r2 cx.ei ya) fM ?_;have cx1:=cx.aeI it' z1 z2 z3 z4 z5;have r3:jV E2 N { S with fr:=xB } (a.put c.oN.dst (.tuple #[.bool true,kk,vv])) w3:=
      ⟨cx1.qo.good,r2.nZ,jA r2.fr p1 ⟨[.bool true,kk,vv],⟨_,_,rfl,⟨_,_,lu _ _ hk,⟨_,[],lu _ _ hv,rfl,rfl⟩,rfl⟩,rfl⟩,rfl⟩ (sz r2 hdN),by rw[iF];exact r2.size,by rw[gA];exact r2.gz⟩
     refine kL (uT:=none) (GM P) [c.oX] _ .normal s2 (.inl rfl) (fun o ho=>by rw[aq]at ho;subst ho;exact hdX) p2 E2 _ w3 _ r3 ?_;intro E3 a3 w4 x' u fK pC r4 sM;cases x'<;>first|exact sM.elim|skip
     have cx3:=cx1.step (n1:=s.n+1) be be be (lH.of u fK xn);show(Code.seq (.cond c.tok .skip (.exit c.bl)) _).wp P _ a3 w4;refine wp_seq (wp_cond_true (oD r4.good.jm r4.fr p3) (wp_skip ?_));show(Code.block c.b1 _).wp P _ a3 w4;refine wp_block (wp_seq ((wpIn_wide (n:=0)).1 (wpIn_region_list (F:=fz none) ?_)));have hh:w4.heap[w1.heap.size]? =w3.heap[w1.heap.size]?/\w4.heap[b]? =w3.heap[b]?:=
      ⟨u.keep _ cx1.rlt fun k z hk=>cx1.hr k z hk.live,u.keep _ cx1.blt fun k z hk=>cx1.hb k z hk.live⟩
     show wpListIn (fz none) 0 P _ _ (c.oE::c.post) a3 w4;refine OE hc.gE hc.opE (hev r4 cx3.ei p4) (wH w4 hh.1 hh.2) ?_;have r5:jV E3 N { s2 with fr:=XA } (a3.put c.oE.dst (.tuple #[kk,vv])) w4:=
      ⟨r4.good,r4.nZ,jA r4.fr p7 ⟨[kk,vv],⟨_,_,lu _ _ (kJ u.le.fz _ _ hk),⟨_,[],lu _ _ (kJ u.le.fz _ _ hv),rfl,rfl⟩,rfl⟩,rfl⟩ (sz r4 alk),by rw[iF];exact r4.size,by rw[gA];exact r4.gz⟩
     refine kL (uT:=none) (GM P) c.post _ .normal s4 (.inl rfl) hdP p8 E3 _ w4 _ r5 ?_;intro E4 a4 w5 x' u4 aeM hn4 r6 sM;cases x'<;>first|exact sM.elim|skip
     have Ky:s.n+1<=s2.n:=by rw[p6];exact xn
     have cx4:=cx3.step (n1:=s.n+1) be be be (lH.of u4 aeM Ky);have hn5:s.n+1<=s4.n:=bU Ky hn4;show c.rest.wp P _ a4 w5;refine hT E4 a4 w5 _ r6 hn5 fun y s' E' a' w' q u' pC r'=>?_;have cx5:=cx4.step (n1:=s.n+1) be be be u';have ub:=cx5.back Q4 e1 yS;have uc:J (iD++[e]) s'->Code.rounds P (.seq (.region c.g1 #[c.oN,c.oX] false) (.seq (.cond c.tok .skip (.exit c.bl)) (.block c.b1 (.seq (.region c.g2 (c.oE::c.post).toArray false) c.rest)))) (Exit.inBlock c.bl K) nn a' w':=by
      intro hJ';refine ih (iD++[e]) ko s' E' a' w' ?_ ?_ hJ' pC r' cx5
      . have:=hp.length_eq;simp only[aT]at this;omega
      . refine List.Perm.trans ?_ Fi;rw[bA];exact List.Perm.append_left iD hp.symm
     have oU:∀y,y≠ .normal->mj c.bl (fun y s'=>Q y (OF m kd es s')) y s'->Exit.inBlock c.bl K y a' w':=by
      intro y hy q;have Cu:∀y,Q y (OF m kd es s')->K y a' w':=fun y q=>k y _ E' a' w' q ub (by show n0<=s'.n;omega) ⟨ub.good,r'.nZ,r'.fr,r'.size,r'.gz⟩;cases y<;>first|exact absurd rfl hy|exact Cu _ q|skip
      rename_i j;simp only[Exit.inBlock,mj]at q ⊢;split
      . rename_i he;rw[aG he]at q;exact Cu _ q
      . rename_i he;rw[aI he]at q;exact Cu _ q
     cases y with
     |normal=>exact uc q
     |exit j=>
      simp only[mj]at q;by_cases he:j=c.b1
      . rw[aG he]at q;have e2:Exit.inBlock c.b1 (Exit.then (Code.rounds P (.seq (.region c.g1 #[c.oN,c.oX] false) (.seq (.cond c.tok .skip (.exit c.bl)) (.block c.b1 (.seq (.region c.g2 (c.oE::c.post).toArray false) c.rest)))) (Exit.inBlock c.bl K) nn) (Exit.inBlock c.bl K)) (.exit j) a' w':=by
         simp only[Exit.inBlock];rw[aG he];exact uc q
        exact e2
      . rw[aI he]at q;have e2:Exit.inBlock c.b1 (Exit.then (Code.rounds P (.seq (.region c.g1 #[c.oN,c.oX] false) (.seq (.cond c.tok .skip (.exit c.bl)) (.block c.b1 (.seq (.region c.g2 (c.oE::c.post).toArray false) c.rest)))) (Exit.inBlock c.bl K) nn) (Exit.inBlock c.bl K)) (.exit j) a' w':=by
         simp only[Exit.inBlock];rw[aI he];exact oU (.exit j) (by simp) q
        exact e2
     |goto l=>exact oU (.goto l) (by simp) q
     |ret=>exact oU .ret (by simp) q
     |panic ch=>exact oU (.panic ch) (by simp) q
     |outgrown=>exact oU .outgrown (by simp) q
 exact key (es.length+1) [] es _ _ _ _ (Nat.lt_succ_self _) (.refl _) h1 (aA _) r1 alo
theorem zf{P:Program}{n0 N:Nat}{c:qZ}{s:St}{Q:Exit->St->Prop}{xR:Operand}{tI m:Nat}{kd:Option IntKind}{es:ae}{v0:V}{kg zS:Tr V}(hm:P.follows .mixedOrders=true)(hc:su P N c xR tI)
  (h0:dD P c.o0 s.fr s.h s.n=some (.val v0 s.h s.n)) (hp0:iZ s.fr c.o0.dst v0=some kg) (hx:iK kg xR=some (.map (some m))) (Uf:s.h.get m=some (.dy kd es)) (yS:m<fN) (hp1:iZ kg c.oR.dst (.ptr (some (s.n,0)))=some zS)
  (J:ae->St->Prop) (h1:J [] { fr:=zS,h:=s.h.set m none,n:=s.n+1,gz:=s.gz })
  (Lc:∀iD left s1,J iD s1->List.Perm (iD++left) es->∃L S,eX (s.n+1) L s1=some S/\S.fr.get tI=some (.ptr (some (s.n,0)))/\
   (left=[]->∃xB sD,iZ S.fr c.oN.dst (.ef [.bool false])=some xB/\je P U0 #[c.oN,c.oX] [c.oX] { S with fr:=xB }=some (.normal,sD)/\iK sD.fr c.tok=some (.bool false)/\Q .normal (OF m kd es sD))/\
   (∀e ko,List.Perm left (e::ko)->∃xB s2 XA s4,iZ S.fr c.oN.dst (.ef [.bool true,e.1.iL,e.2.iL])=some xB/\je P U0 #[c.oN,c.oX] [c.oX] { S with fr:=xB }=some (.normal,s2)/\iK s2.fr c.tok=some (.bool true)/\s2.fr.get tI=some (.ptr (some (s.n,0)))/\s2.h=S.h/\s2.n=S.n/\
    iZ s2.fr c.oE.dst (.ef [e.1.iL,e.2.iL])=some XA/\je P U0 (c.oE::c.post).toArray c.post { s2 with fr:=XA }=some (.normal,s4)/\
    TG P (s.n+1) N c.rest s4 (mj c.b1 (andThen (J (iD++[e])) (mj c.bl fun y s'=>Q y (OF m kd es s')))))):TG P n0 N c.code s Q:=
 IZ hm hc h0 hp0 hx Uf yS hp1 J h1 fun iD left s1 hj hp=>by
  obtain⟨L,S,hS,r⟩:=Lc iD left s1 hj hp;exact⟨S,.norm hS,r⟩
end Go.Eng
