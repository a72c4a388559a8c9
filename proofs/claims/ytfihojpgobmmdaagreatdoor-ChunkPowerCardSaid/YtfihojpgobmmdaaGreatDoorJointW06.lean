/- Lemmas of the engine. No conditions. -/
import Derived.Test.YtfihojpgobmmdaaGreatDoorJointW04
import Derived.Maps.RangeRun
set_option linter.unusedVariables false
set_option linter.unusedSimpArgs false
set_option linter.unusedSectionVars false
set_option maxRecDepth 10000
namespace Go.Eng
open Go Go.RowKit
abbrev fC(a:ag)(h:H rs)(n:Nat):Prop:=a=a/\h=h/\n=n
def fF(Q:e9)(f:FuncId)(args:ag)(h:H rs)(n:Nat)(r:V×H rs×Nat):e9:=fun f' a' h' n'=>match Nat.beq f' f with
 |true=>some [(⟨[],[],[a'=args/\h'=h/\n'=n]⟩,r)]
 |false=>Q f' a' h' n'
open Classical in
noncomputable def Sk(cf:ga)(f:FuncId)(args:ag)(h:H rs)(n:Nat)(r:V×H rs×Nat):ga:=fun f' a' h' n'=>
 if f'=f then(if a'=args/\h'=h/\n'=n then some (.ret r.1,r.2.1,r.2.2)else none)else cf f' a' h' n'
theorem LH{Q:e9}{cf:ga}(hs:pV Q cf)(f:FuncId)(args:ag)(h:H rs)(n:Nat)(r:V×H rs×Nat):pV (fF Q f args h n r) (Sk cf f args h n r):=by
 intro f' a' h' n';unfold fF Sk;by_cases hf:f'=f
 . subst hf;rw[cP,aF rfl];intro l e;obtain rfl:=eE e;refine⟨⟨_,au.2 rfl,fun c J=>by simp at J⟩,fun e he _ hg=>?_⟩;simp only[au]at he;subst he;have:a'=args/\h'=h/\n'=n:=hg.2 _ (au.2 rfl);simp only;rw[aF this];rfl
 . have:Nat.beq f' f=false:=by
    cases q:Nat.beq f' f with
    |false=>rfl
    |true=>exact absurd (aG q) hf
   rw[this,aJ hf];exact hs f' a' h' n'
theorem V3{P:Program}{cf:ga}(hk:jt P cf){f:FuncId}{args:ag}{h:H rs}{n:Nat}{v:V}{X:H rs}{n1:Nat}(fH:f<P.funcs.size)
  (J:∀E w dm,dK E args dm->Good E h w->rL E n->Calls P f dm.toArray w (kz E h n w (.ret v) X n1)):jt P (Sk cf f args h n (v,X,n1)):=by
 intro f' a' h' n' abC h2 n2 e E w dm ra g hd;unfold Sk at e;split at e
 . rename_i hf;subst hf;split at e
   . rename_i hq;obtain⟨rfl,rfl,rfl⟩:=hq;simp only[an,aB]at e;obtain⟨rfl,rfl,rfl⟩:=e;exact⟨fun _=>J E w dm ra g hd,fun m l s hf _=>absurd fH (by rw[hf];exact Nat.not_lt.2 (Nat.le_add_right _ _))⟩
   . cases e
 . exact hk f' a' h' n' abC h2 n2 e E w dm ra g hd
noncomputable def CX.jG{P:Program}(h1:CX P){f:FuncId}{args:ag}{h:H rs}{n:Nat}{v:V}{X:H rs}{n1:Nat}(fH:f<P.funcs.size)
  (J:∀E w dm,dK E args dm->Good E h w->rL E n->Calls P f dm.toArray w (kz E h n w (.ret v) X n1)):CX P:=
 ⟨fF h1.Q f args h n (v,X,n1),Sk h1.cf f args h n (v,X,n1),LH h1.snd f args h n (v,X,n1),V3 h1.ok fH J⟩
def zM(Q:e9)(f:FuncId)(q:ag->Bool)(args:ag)(h:H rs)(n:Nat)(r:V×H rs×Nat):e9:=fun f' a' h' n'=>match Nat.beq f' f&&q a' with
 |true=>some [(⟨[],[],[a'=args/\h'=h/\n'=n]⟩,r)]
 |false=>Q f' a' h' n'
open Classical in
noncomputable def Jq(cf:ga)(f:FuncId)(q:ag->Bool)(args:ag)(h:H rs)(n:Nat)(r:V×H rs×Nat):ga:=fun f' a' h' n'=>
 if(Nat.beq f' f&&q a')=true then(if a'=args/\h'=h/\n'=n then some (.ret r.1,r.2.1,r.2.2)else none)else cf f' a' h' n'
theorem Jr{Q:e9}{cf:ga}(hs:pV Q cf)(f:FuncId)(q:ag->Bool)(args:ag)(h:H rs)(n:Nat)(r:V×H rs×Nat):pV (zM Q f q args h n r) (Jq cf f q args h n r):=by
 intro f' a' h' n';unfold zM Jq;cases hb:(Nat.beq f' f&&q a')with
 |true=>
  rw[aF rfl];intro l e;obtain rfl:=eE e;refine⟨⟨_,au.2 rfl,fun c J=>by simp at J⟩,fun e he _ hg=>?_⟩;simp only[au]at he;subst he;have:a'=args/\h'=h/\n'=n:=hg.2 _ (au.2 rfl);simp only;rw[aF this];rfl
 |false=>
  rw[aJ (by simp)];exact hs f' a' h' n'
theorem Sl{P:Program}{cf:ga}(hk:jt P cf){f:FuncId}{q:ag->Bool}{args:ag}{h:H rs}{n:Nat}{v:V}{X:H rs}{n1:Nat}(fH:f<P.funcs.size)
  (J:∀E w dm,dK E args dm->Good E h w->rL E n->Calls P f dm.toArray w (kz E h n w (.ret v) X n1)):jt P (Jq cf f q args h n (v,X,n1)):=by
 intro f' a' h' n' abC h2 n2 e E w dm ra g hd;unfold Jq at e;split at e
 . rename_i hf;simp only[aE]at hf;have hf:=aG hf.1;subst hf;split at e
   . rename_i hq;obtain⟨rfl,rfl,rfl⟩:=hq;simp only[an,aB]at e;obtain⟨rfl,rfl,rfl⟩:=e;exact⟨fun _=>J E w dm ra g hd,fun m l s hf _=>absurd fH (by rw[hf];exact Nat.not_lt.2 (Nat.le_add_right _ _))⟩
   . cases e
 . exact hk f' a' h' n' abC h2 n2 e E w dm ra g hd
noncomputable def CX.LI{P:Program}(h1:CX P)(q:ag->Bool){f:FuncId}{args:ag}{h:H rs}{n:Nat}{v:V}{X:H rs}{n1:Nat}(fH:f<P.funcs.size)
  (J:∀E w dm,dK E args dm->Good E h w->rL E n->Calls P f dm.toArray w (kz E h n w (.ret v) X n1)):CX P:=
 ⟨zM h1.Q f q args h n (v,X,n1),Jq h1.cf f q args h n (v,X,n1),Jr h1.snd f q args h n (v,X,n1),Sl h1.ok fH J⟩
def c5(P:Program)(f:FuncId)(args:ag)(h:H rs)(n:Nat)(v:V)(X:H rs)(n1:Nat):Prop:=∀E w dm,dK E args dm->Good E h w->rL E n->Calls P f dm.toArray w (kz E h n w (.ret v) X n1)
theorem Cm:∀(l:af) (t:H rs) (j:Nat) (o:rs),(∀p∈l,p.1<fW)->(K.go t l).get j=some o->t.get j=some o\/(j,o)∈l
 | [],t,j,o,_,h=>.inl h
 |(k,v)::l,t,j,o,hl,h=>by
  rcases Cm l _ j o (fun q hq=>hl q (by simp[hq])) h with q|q
  . rw[H.eY _ _ _ (hl (k,v) (by simp))]at q;split at q
    . rename_i z;simp only[an]at q;subst z;subst q;exact .inr (by simp)
    . exact .inl q
  . exact .inr (by simp[q])
theorem AW{ns:List (Option Nat)}{h:H rs}{l:af}(hl:∀p∈l,p.1<fW)(X:∀p∈kf,ns.getD p.2 none=some p.2)(h2:nQ ns=true)
  (h3:∀j m,ns.getD j none=some m->(∃p∈kf,p.2=m)\/h.get m≠none) (h4:∀p∈l,∃m o,ns.getD p.1 none=some m/\h.get m=some o/\o.rn (mu ns)=some p.2):vS ns h (K l):=by
 refine⟨X,h2,h3,fun j o1 hj=>?_⟩;rcases Cm l .nil j o1 hl hj with q|q
 . simp[H.get]at q
 . exact h4 _ q
open Go.ChangeMaps (setBlock)
structure LJ(φ:Nat->Option (Array Value))(kd:Option IntKind)(C:ae)(w:World)(r b:Nat)(left:ae):Prop where
 ex:∃seen gi eD,w.heap[r]? =some (.mapIter (some b) eD seen eD)/\w.heap[b]? =some (.map gi eD)/\ko φ kd C gi.toList eD/\∃l,List.Perm l left/\kj φ l (leftOf gi seen).toList
theorem LJ.mono{φ MX:Nat->Option (Array Value)}{kd:Option IntKind}{C left:ae}{w w':World}{r b:Nat}(lJ:∀b c,φ b=some c->MX b=some c)(hr:w'.heap[r]? =w.heap[r]?)(hb:w'.heap[b]? =w.heap[b]?)(i:LJ φ kd C w r b left):LJ MX kd C w' r b left:=by
 obtain⟨seen,gi,eD,X,h2,h3,l,h4,h5⟩:=i.ex;exact⟨seen,gi,eD,hr.trans X,hb.trans h2,h3.mono lJ,l,h4,xS lJ _ _ h5⟩
theorem FW{φ:Nat->Option (Array Value)}:∀(a1:List MapEntry) {e:MapEntry} {a2:List MapEntry} {l:ae},kj φ l (a1++e::a2)->∃l1 c l2,l=l1++c::l2/\kj φ l1 a1/\kV φ c.1 e.key/\kV φ c.2 e.val/\kj φ l2 a2
 | [],e,a2,l,h=>by
   cases l with
   |nil=>have h:([]++e::a2:List MapEntry)=[]:=h;cases h
   |cons c l2=>
    obtain⟨y,ys,X,h2,h3,h4⟩:=h;simp only[cH,List.cons.injEq]at h4;obtain⟨rfl,rfl⟩:=h4;exact⟨[],c,l2,rfl,rfl,X,h2,h3⟩
 |x::a1,e,a2,l,h=>by
  cases l with
  |nil=>have h:(x::a1++e::a2:List MapEntry)=[]:=h;cases h
  |cons c0 l0=>
   obtain⟨y,ys,X,h2,h3,h4⟩:=h;simp only[List.cons_append,List.cons.injEq]at h4;obtain⟨rfl,rfl⟩:=h4;obtain⟨l1,c,l2,rfl,k1,k2,k3,k4⟩:=FW a1 h3;exact⟨c0::l1,c,l2,rfl,⟨_,_,X,h2,k1,rfl⟩,k2,k3,k4⟩
theorem FX{φ:Nat->Option (Array Value)}:∀{l1:ae} {a1:List MapEntry} {l2:ae} {a2:List MapEntry},kj φ l1 a1->kj φ l2 a2->kj φ (l1++l2) (a1++a2)
 | [],a1,l2,a2,X,h2=>by have X:a1=[]:=X;subst X;exact h2
 |c::l1,a1,l2,a2,X,h2=>by
  obtain⟨y,ys,k1,k2,k3,rfl⟩:=X;exact⟨y,ys++a2,k1,k2,FX k3 h2,rfl⟩
theorem Pj{φ:Nat->Option (Array Value)}{l:ae}(h:kj φ l []):l=[]:=by
 cases l with
 |nil=>rfl
 |cons c l=>obtain⟨_,_,_,_,_,h⟩:=h;cases h
section
variable(C:Array MapEntry)(seen:Array Nat)
theorem pI:(leftOf C seen).toList=C.toList.filter fun e=>!seen.contains e.born:=by
 simp[leftOf]
theorem Js(b:Nat):(leftOf C (seen.push b)).toList=(leftOf C seen).toList.filter fun e=>!(e.born==b):=by
 rw[pI,pI,List.filter_filter];congr 1;funext e;have:(e.born==b)=decide (e.born=b):=rfl;rw[this];simp[Bool.and_comm]
end
theorem V4{P:Program}{φ:Nat->Option (Array Value)}{kd:Option IntKind}{C left:ae}{w:World}{r b:Nat}(hrb:r≠b)(i:LJ φ kd C w r b left)(ty:TypeId):
  (left=[]/\(Instr.next (.pointer (some ⟨r,0,none⟩)) false ty).run P w= .ok (.tuple #[.bool false]) w) \/
  ∃c kN k v w',List.Perm left (c::kN)/\kV φ c.1 k/\kV φ c.2 v/\(Instr.next (.pointer (some ⟨r,0,none⟩)) false ty).run P w= .ok (.tuple #[.bool true,k,v]) w'/\
   (∀w2:World,w2.heap[r]? =w'.heap[r]?->w2.heap[b]? =w'.heap[b]?->(Instr.entry (.pointer (some ⟨r,0,none⟩))).run P w2= .ok (.tuple #[k,v]) w2)/\LJ φ kd C w' r b kN/\w'.heap.size=w.heap.size/\w'.tape=w.tape/\w'.os=w.os/\w'.output=w.output/\∀x,x≠r->w'.heap[x]? =w.heap[x]?:=by
 obtain⟨seen,gi,eD,hr,hb,hM,l,hl,W⟩:=i.ex;rcases run_next_at (P:=P) w ty r b eD eD seen gi eD hr hb (fun x M=>hM.old x M) (aC _)with⟨h0,fU⟩|⟨e,he,w1,Fq,fU⟩
 . left;have:(leftOf gi seen).toList=[]:=by rw[<- Array.length_toList]at h0;exact List.eq_nil_of_length_eq_zero h0
   rw[this]at W;have:=Pj W;subst this;exact⟨hl.symm.eq_nil,fU⟩
 . right;obtain⟨a1,a2,ha⟩:=List.append_of_mem he;have GM:((leftOf gi seen).toList.map (·.born)).Nodup:=by
    rw[pI];exact hM.born.sublist (List.filter_sublist.map _)
   rw[ha]at W;obtain⟨l1,c,l2,rfl,k1,k2,k3,k4⟩:=FW a1 W;have abD:w1.heap=w.heap:=by rcases Fq with rfl|rfl<;>rfl
   have abE:w1.tape=w.tape/\w1.os=w.os/\w1.output=w.output:=by rcases Fq with rfl|rfl<;>exact⟨rfl,rfl,rfl⟩
   have amQ:r<w.heap.size:=(aS.1 hr).1;have tO:(setBlock w1 r (.mapIter (some b) eD (seen.push e.born) eD)).heap[r]? =some (.mapIter (some b) eD (seen.push e.born) eD):=by
    simp[setBlock,abD,amQ]
   have af0:∀x,x≠r->(setBlock w1 r (.mapIter (some b) eD (seen.push e.born) eD)).heap[x]? =w.heap[x]?:=by
    intro x M;simp only[setBlock,abD];rw[Array.getElem?_setIfInBounds_ne (Ne.symm M)]
   have hbb:=(af0 b (Ne.symm hrb)).trans hb;refine⟨c,l1++l2,e.key,e.val,_,?_,k2,k3,fU,?_,⟨seen.push e.born,gi,eD,tO,hbb,hM,l1++l2,.refl _,?_⟩,by simp[setBlock,abD],abE.1,abE.2.1,abE.2.2,af0⟩
   . exact hl.symm.trans List.perm_middle
   . have amR:e∈gi.toList:=by
      rw[pI]at he;exact(List.mem_filter.1 he).1
     exact fun w2 g1 g2=>run_entry_at w2 r b eD seen gi eD e (g1.trans tO) (g2.trans hbb) amR hM.born
   . rw[Js,ha];rw[ha,aZ,bX]at GM;have af1:=List.nodup_append.1 GM;have f1:a1.filter (fun x=>!(x.born==e.born))=a1:=by
      rw[List.filter_eq_self];intro x M;have:x.born≠e.born:=fun q=>af1.2.2 x.born (bF.2 ⟨x,M,rfl⟩) e.born (by simp) q;simp[this]
     have f2:a2.filter (fun x=>!(x.born==e.born))=a2:=by
      rw[List.filter_eq_self];intro x M;have h3:=(cn.1 af1.2.1).1;have:x.born≠e.born:=fun q=>h3 (by rw[<- q];exact bF.2 ⟨x,M,rfl⟩);simp[this]
     rw[List.filter_append,f1,List.filter_cons];simp only[cO,Bool.not_true,aP,cJ,f2];exact FX k1 k4
section
variable{P:Program}{fl:Fence}{n:Nat}{ops:Array Oper}{cs:Exit->Act->World->Prop}{a:Act}{w:World}{rest:List Oper}{o:Oper}
theorem Pk{t k e:TypeId}{x:Operand}{b:Nat}{C:Array MapEntry}{eD:Nat}(hg:o.guard=none)(pU:o.op= .range t x)(hu:P.underlying t=some (.map k e))(M:a.eval x= .map (some b))(hb:w.heap[b]? =some (.map C eD))
  (hK:wpListIn fl n P ops cs rest (a.put o.dst (.pointer (some ⟨w.heap.size,0,none⟩))) (w.alloc (.mapIter (some b) eD #[] eD))):wpListIn fl n P ops cs (o::rest) a w:=by
 refine wpListIn_plain hg fun K' V5=>?_;have fU:=run_range_map (P:=P) w t k e b C eD hu hb;unfold Oper.wpIn;refine⟨by simp[Oper.about,pU],?_⟩;rw[lZ (by rw[pU];intro c wO;cases wO)];simp[execOp,pU,M,fU,Result.andThen];exact V5 _ _ hK
theorem Jt{x:Operand}{r:Nat}{v:Value}{w':World}(hg:o.guard=none)(pU:o.op= .next x false)(M:a.eval x= .pointer (some ⟨r,0,none⟩))(fU:(Instr.next (.pointer (some ⟨r,0,none⟩)) false o.type).run P w= .ok v w')
  (hK:wpListIn fl n P ops cs rest (a.put o.dst v) w'):wpListIn fl n P ops cs (o::rest) a w:=by
 refine wpListIn_plain hg fun K' V5=>?_;unfold Oper.wpIn;refine⟨by simp[Oper.about,pU],?_⟩;rw[lZ (by rw[pU];intro c wO;cases wO)];simp[execOp,pU,M,fU,Result.andThen];exact V5 _ _ hK
theorem Pm{x:Operand}{r:Nat}{v:Value}(hg:o.guard=none)(pU:o.op= .entry x)(M:a.eval x= .pointer (some ⟨r,0,none⟩))(fU:(Instr.entry (.pointer (some ⟨r,0,none⟩))).run P w= .ok v w)
  (hK:wpListIn fl n P ops cs rest (a.put o.dst v) w):wpListIn fl n P ops cs (o::rest) a w:=by
 refine wpListIn_plain hg fun K' V5=>?_;unfold Oper.wpIn;refine⟨by simp[Oper.about,pU],?_⟩;rw[lZ (by rw[pU];intro c wO;cases wO)];simp[execOp,pU,M,fU,Result.andThen];exact V5 _ _ hK
end
theorem iI.iter{E:Env}{h:H rs}{w:World}{n m:Nat}{ob:Obj}(g:Good E h w)(hn:E.ι n=none)(zw:m<fW):iI E h w (E.put n w.heap.size 0 0) (h.set m none) (w.alloc ob):=by
 have vp:∀m b s,E.ι m=some (b,s)->b≠w.heap.size:=fun m b s e hb=>by have:=g.ny m b s e;omega
 have kR:E.le (E.put n w.heap.size 0 0):=Env.sq hn fun m x t e M=>absurd M (vp m x t e);have B7:∀b c,E.φ b=some c->b<w.heap.size:=fun b c q=>by
  obtain⟨⟨el,fz,e⟩,_⟩:=g.gX b c q;exact(aS.1 e).1
 have hs:∀k o,(h.set m none).get k=some o->h.get k=some o:=by
  intro k o hk;rw[H.eY _ _ _ zw]at hk;split at hk
  . cases hk
  . exact hk
 have fS:∀k,(h.set m none).get k≠none->k≠n:=by
  rintro k hk rfl;obtain⟨o,ho⟩:=bh.1 hk;obtain⟨b,s,e,_⟩:=g.rel k o (hs k o ho);rw[hn]at e;cases e
 refine⟨kR,⟨fun k o hk=>?_,fun k k' b s s' Fv hk uT e e'=>?_,fun k b s e=>?_,g.jy.mono kR,fun b c q=>⟨by rw[jT (B7 b c q)];exact(g.gX b c q).1,fun k s hk e=>?_⟩⟩,by simp,rfl,rfl,rfl,fun b hb _=>jT hb,fun k b s hk e hb=>?_,fun _ _ q=>.inl q⟩
 . obtain⟨b,s,X,h2⟩:=g.rel k o (hs k o hk);exact⟨b,s,by rw[Env.fG (fS k (by rw[hk];simp))];exact X,iF kR (kR.nm k b s X).2 (jT (g.ny k b s X)) h2⟩
 . rw[Env.fG (fS k hk.live)]at e;rw[Env.fG (fS k' uT)]at e';exact g.inj k k' b s s' Fv (gA hs hk) (nG hs uT) e e'
 . by_cases a:k=n
   . subst a;rw[Env.ff]at e;cases e;simp
   . rw[Env.fG a]at e;have:=g.ny k b s e;simp;omega
 . rw[Env.fG (fS k hk.live)]at e;exact(g.gX b c q).2 k s (gA hs hk) e
 . rw[Env.fG (fS k hk)]at e;exact⟨k,s,nG hs hk,e,gA hs⟩
theorem l7.weaken{I n1:Nat}(hn:I<=n1){E E':Env}{h h':H rs}{w w':World}(u:l7 n1 E h w E' h' w'):l7 I E h w E' h' w':=
 ⟨fun m b s W=>u.le m b s L,fun m W=>u.low m L,u.fz,u.good,u.size,u.tape,u.os,u.output,u.keep,u.uF,u.Eu⟩
structure xF(I:Nat)(E0:Env)(h0:H rs)(w0:World)(m mi:Nat)(kd:Option IntKind)(C left:ae)(r b:Nat)(E:Env)(h:H rs)(w:World):Prop where
 qT:l7 I E0 h0 w0 E h w
 it:LJ E.φ kd C w r b left
 em:E.ι m=some (b,0)
 ei:E.ι mi=some (r,0)
 hr:∀k z,h.get k≠none->E.ι k≠some (r,z)
 hb:∀k z,h.get k≠none->E.ι k≠some (b,z)
 rlt:r<w.heap.size
 blt:b<w.heap.size
 r0:w0.heap.size<=r
 ne:r≠b
theorem xF.step{I n1:Nat}{E0:Env}{h0:H rs}{w0:World}{m mi:Nat}{kd:Option IntKind}{C left:ae}{r b:Nat}{E E':Env}{h h':H rs}{w w':World}(hn:I<=n1)(W:m<n1)(hi:mi<n1)(c:xF I E0 h0 w0 m mi kd C left r b E h w)
  (u:l7 n1 E h w E' h' w'):xF I E0 h0 w0 m mi kd C left r b E' h' w' where
 qT:=c.qT.trans (u.weaken hn)
 it:=c.it.mono u.fz (u.keep r c.rlt fun k z hk=>c.hr k z hk.live) (u.keep b c.blt fun k z hk=>c.hb k z hk.live)
 em:=(u.low m W).trans c.em
 ei:=(u.low mi hi).trans c.ei
 hr:=fun k z hk e=>by
  obtain⟨m0,s0,q1,q2,_⟩:=u.uF k r z hk e c.rlt;exact c.hr m0 s0 q1 q2
 hb:=fun k z hk e=>by
  obtain⟨m0,s0,q1,q2,_⟩:=u.uF k b z hk e c.blt;exact c.hb m0 s0 q1 q2
 rlt:=bC c.rlt u.size
 blt:=bC c.blt u.size
 r0:=c.r0
 ne:=c.ne
theorem xF.af2{I:Nat}{E0:Env}{h0:H rs}{w0:World}{m mi:Nat}{kd:Option IntKind}{C left kN:ae}{r b:Nat}{E:Env}{h:H rs}{w w':World}(c:xF I E0 h0 w0 m mi kd C left r b E h w)(i:LJ E.φ kd C w' r b kN)
  (X:w'.heap.size=w.heap.size) (h2:w'.tape=w.tape) (h3:w'.os=w.os) (h4:w'.output=w.output) (h5:∀x,x≠r->w'.heap[x]? =w.heap[x]?):xF I E0 h0 w0 m mi kd C kN r b E h w':=by
 have fS:∀k b' z,h.get k≠none->E.ι k=some (b',z)->b'≠r:=fun k b' z hk e q=>c.hr k z hk (q▸e);have g:=c.qT.good;have yN:∀b' cc,E.φ b'=some cc->b'≠r:=by
  rintro b' cc q rfl;obtain⟨⟨el,fz,e⟩,_⟩:=g.gX _ cc q;obtain⟨seen,gi,eD,k1,_⟩:=c.it.ex;rw[k1]at e;cases e
 refine⟨⟨c.qT.le,c.qT.low,c.qT.fz,⟨fun k o hk=>?_,g.inj,fun k b' z e=>by rw[X];exact g.ny k b' z e,g.jy,fun b' cc q=>⟨by rw[h5 b' (yN b' cc q)];exact(g.gX b' cc q).1,(g.gX b' cc q).2⟩⟩,by rw[X];exact c.qT.size,h2.trans c.qT.tape,h3.trans c.qT.os,h4.trans c.qT.output,fun x M rV=>?_,c.qT.uF,c.qT.Eu⟩,i,c.em,c.ei,c.hr,c.hb,by rw[X];exact c.rlt,by rw[X];exact c.blt,c.r0,c.ne⟩
 . obtain⟨b',z,e,q⟩:=g.rel k o hk;exact⟨b',z,e,iF E.le_refl rfl (h5 b' (fS k b' z (by rw[hk];simp) e)) q⟩
 . rw[h5 x (by have:=c.r0;omega)];exact c.qT.keep x M rV
def Pn(m:Nat)(kd:Option IntKind)(C:ae)(s:St):St:={ s with h:=s.h.set m (some (.dy kd C)) }
theorem xF.back{I:Nat}{E0:Env}{h0:H rs}{w0:World}{m mi:Nat}{kd:Option IntKind}{C left:ae}{r b:Nat}{E:Env}{h:H rs}{w:World}(c:xF I E0 h0 w0 m mi kd C left r b E h w)(hm0:eG h0 m)(he0:E0.ι m=some (b,0))(zw:m<fW):
  l7 I E0 h0 w0 E (h.set m (some (.dy kd C))) w:=by
 have g:=c.qT.good;obtain⟨seen,gi,eD,k1,k2,k3,_⟩:=c.it.ex;have kY:∀k,(h.set m (some (rs.dy kd C))).get k=if k=m then some (.dy kd C)else h.get k:=fun k=>H.eY _ _ _ zw
 have uL:∀k,k≠m->eG (h.set m (some (rs.dy kd C))) k->eG h k:=fun k hk ⟨o,q1,q2⟩=>⟨o,by rw[kY,aJ hk]at q1;exact q1,q2⟩;have yN:∀b' cc,E.φ b'=some cc->b'≠b:=by
  rintro b' cc q rfl;obtain⟨⟨el,fz,e⟩,_⟩:=g.gX _ cc q;rw[k2]at e;cases e
 refine⟨c.qT.le,c.qT.low,c.qT.fz,⟨fun k o hk=>?_,fun k k' b' z z' Fv hk uT e e'=>?_,g.ny,g.jy,fun b' cc q=>⟨(g.gX b' cc q).1,fun k z hk e=>?_⟩⟩,c.qT.size,c.qT.tape,c.qT.os,c.qT.output,c.qT.keep,fun k b' z hk e GS=>?_,c.qT.Eu⟩
 . rw[kY]at hk;split at hk
   . rename_i q;subst q;cases hk;exact⟨b,0,c.em,rfl,gi,eD,k2,k3⟩
   . exact g.rel k o hk
 . by_cases q:k=m
   . subst q;rw[c.em]at e;cases e;have uT:h.get k'≠none:=by rw[kY,aJ (Ne.symm Fv)]at uT;exact uT
     exact c.hb k' z' uT e'
   . by_cases q':k'=m
     . subst q';rw[c.em]at e';cases e';exact c.hb k z (uL k q hk).live e
     . exact g.inj k k' b' z z' Fv (uL k q hk) (by rw[kY,aJ q']at uT;exact uT) e e'
 . by_cases q':k=m
   . subst q';rw[c.em]at e;cases e;exact yN _ cc q rfl
   . exact(g.gX b' cc q).2 k z (uL k q' hk) e
 . by_cases q':k=m
   . subst q';rw[c.em]at e;cases e;exact⟨k,0,hm0.live,he0,fun _=>hm0⟩
   . obtain⟨m0,s0,p1,p2,p3⟩:=c.qT.uF k b' z (by rw[kY,aJ q']at hk;exact hk) e GS;exact⟨m0,s0,p1,p2,fun x=>p3 (uL k q' x)⟩
def V6:ga:=fun _ _ _ _=>none
theorem Hu(P:Program):jt P V6:=fun _ _ _ _ _ _ _ e=>by cases e
structure r7 where
 g0:Nat
 g1:Nat
 g2:Nat
 o0:Oper
 oR:Oper
 oN:Oper
 oX:Oper
 oE:Oper
 post:List Oper
 bl:Nat
 b1:Nat
 tok:Operand
 rest:Code
def r7.code(m:r7):Code:=.seq (.region m.g0 #[m.o0,m.oR] false) (.block m.bl (.loop (.seq (.region m.g1 #[m.oN,m.oX] false) (.seq (.cond m.tok .skip (.exit m.bl)) (.block m.b1 (.seq (.region m.g2 (m.oE::m.post).toArray false) m.rest))))))
structure tc(P:Program)(rt:Nat)(c:r7)(xR:Operand)(tI:Nat):Prop where
 g0:c.o0.guard=none
 gR:c.oR.guard=none
 gN:c.oN.guard=none
 gE:c.oE.guard=none
 opR:∃ty k e,c.oR.op= .range ty xR/\P.underlying ty=some (.map k e)
 dR:c.oR.dst=some tI
 opN:c.oN.op= .next (.tmp tI) false
 opE:c.oE.op= .entry (.tmp tI)
 ok:fb rt c.code=true
 tI:tI<fW
def LK(I rt:Nat)(s fr:St):Prop:=∀E a w,kI E rt s a w->I<=s.n->I<=fr.n/\∃E2,kI E2 rt fr a w/\l7 I E s.h w E2 fr.h w
theorem LK.norm{I rt:Nat}{be:List Nat}{s fr:St}(e:fe I be s=some fr):LK I rt s fr:=fun _ _ _ r _=>(rY e r).2
theorem LK.trans{I rt:Nat}{a b c:St}(X:LK I rt a b)(h2:LK I rt b c):LK I rt a c:=fun E x w r hn=>by
 obtain⟨xV,E2,r2,u2⟩:=X E x w r hn;obtain⟨K1,E3,r3,u3⟩:=h2 E2 x w r2 xV;exact⟨K1,E3,r3,u2.trans u3⟩
theorem LK.mem{I rt:Nat}{s:St}{h2:H rs}(hg:∀E w,Good E s.h w->Good E h2 w/\∀m,(h2.get m≠none↔s.h.get m≠none)/\(eG h2 m->eG s.h m)):LK I rt s { s with h:=h2 }:=fun E a w r hn=>by
 obtain⟨g2,k2⟩:=hg E w r.good;exact⟨hn,E,⟨g2,r.oI,r.S,r.size,r.gD⟩,⟨fun _ _ _ _ e=>⟨e,rfl⟩,fun _ _=>rfl,fun _ _ q=>q,g2,aC _,rfl,rfl,rfl,fun _ _ _=>rfl,fun m b s1 W e1 _=>⟨m,s1,(k2 m).1.1 W,e1,(k2 m).2⟩,fun _ _ q=>.inl q⟩⟩
theorem LK.deep{I rt:Nat}{s fr:St}(l:List Nat)(e:Dz l s=some fr):LK I rt s fr:=by
 unfold Dz at e;split at e
 case h_2=>cases e
 rename_i h2 hh;obtain rfl:=eE e;exact LK.mem fun E w g=>rD l s.h h2 hh g
theorem Ju{P:Program}{I rt:Nat}{c:r7}{s:St}{cs:Exit->St->Prop}{xR:Operand}{tI m:Nat}{kd:Option IntKind}{C:ae}{v0:V}{kH Ap:H V}(W:P.follows .mixedOrders=true)(J:tc P rt c xR tI)
  (h0:dH P c.o0 s.S s.h s.n=some (.val v0 s.h s.n)) (hp0:jj s.S c.o0.dst v0=some kH) (M:iX kH xR=some (.map (some m))) (Vp:s.h.get m=some (.dy kd C)) (zw:m<fW) (hp1:jj kH c.oR.dst (.ptr (some (s.n,0)))=some Ap)
  (hc:ae->St->Prop) (X:hc [] { S:=Ap,h:=s.h.set m none,n:=s.n+1,gD:=s.gD })
  (LL:∀iO left s1,hc iO s1->List.Perm (iO++left) C->∃fr,LK (s.n+1) rt s1 fr/\fr.S.get tI=some (.ptr (some (s.n,0)))/\
   (left=[]->∃yb sD,jj fr.S c.oN.dst (.ew [.bool false])=some yb/\jo P V6 #[c.oN,c.oX] [c.oX] { fr with S:=yb }=some (.normal,sD)/\iX sD.S c.tok=some (.bool false)/\cs .normal (Pn m kd C sD))/\
   (∀e kN,List.Perm left (e::kN)->∃yb s2 YU s4,jj fr.S c.oN.dst (.ew [.bool true,e.1.iZ,e.2.iZ])=some yb/\jo P V6 #[c.oN,c.oX] [c.oX] { fr with S:=yb }=some (.normal,s2)/\iX s2.S c.tok=some (.bool true)/\s2.S.get tI=some (.ptr (some (s.n,0)))/\s2.h=fr.h/\s2.n=fr.n/\
    jj s2.S c.oE.dst (.ew [e.1.iZ,e.2.iZ])=some YU/\jo P V6 (c.oE::c.post).toArray c.post { s2 with S:=YU }=some (.normal,s4)/\
    TG P (s.n+1) rt c.rest s4 (mK c.b1 (andThen (hc (iO++[e])) (mK c.bl fun y s'=>cs y (Pn m kd C s')))))):TG P I rt c.code s cs:=by
 intro E a w hL r hn k;have iC:=J.ok;unfold r7.code at iC;simp only[fb,aE]at iC;obtain⟨⟨hA,_⟩,⟨hB,_⟩,_,⟨hC,_⟩,auY⟩:=iC;have uN:∀{o:Oper},(match o.dst with|some d=>decide (d<rt)|none=>true)=true->nM rt o.dst:=by
  intro o h d hd;rw[hd]at h;exact aI h
 have hd0:nM rt c.o0.dst:=uN (bt.1 hA c.o0 (by simp));have hdR:nM rt c.oR.dst:=uN (bt.1 hA c.oR (by simp));have hdN:nM rt c.oN.dst:=uN (bt.1 hB c.oN (by simp));have hdX:nM rt c.oX.dst:=uN (bt.1 hB c.oX (by simp));have amT:nM rt c.oE.dst:=uN (bt.1 hC c.oE (by simp));have hdP:∀o∈c.post,nM rt o.dst:=fun o ho=>uN (bt.1 hC o (by simp[ho]));have sz:∀{E:Env} {s:St} {a:Act} {w:World} {o:Oper},kI E rt s a w->nM rt o.dst->nM a.tmps.size o.dst:=by
  intro E s a w o r h;rw[r.size];exact h
 obtain⟨ty,kt,et,amU,hu⟩:=J.opR;unfold r7.code;refine wp_seq ((wpIn_wide (n:=0)).1 (wpIn_region_list (F:=fz none) ?_));show wpListIn (fz none) 0 P _ _ [c.o0,c.oR] a w;refine wpListIn_plain J.g0 fun K' V5=>?_;refine CZ r.good (r.oI _ (aC _)) (fun y _=>iS r.good.jy r.S y) h0 fun E1 w1 v1 q1 q2 q3 q4=>V5 _ _ ?_
 obtain rfl:E1=E:=by rcases q4 with⟨_,h⟩|h
                     . exact h
                     . omega
 have rf:zl E1 kH (a.put c.o0.dst v1):=jO r.S hp0 q1 (sz r hd0);obtain⟨b,e1,hxv⟩:∃b,E1.ι m=some (b,0)/\(a.put c.o0.dst v1).eval xR= .map (some b):=by
  have:=iS q2.good.jy rf xR _ M;obtain⟨b,X,h2⟩:=this;exact⟨b,X,h2⟩
 obtain⟨b',z',e2,hz,gi,eD,hb,hM⟩:=q2.good.rel m _ Vp;rw[e1]at e2;simp only[an,aB]at e2;obtain⟨rfl,_⟩:=e2;refine Pk J.gR amU hu hxv hb ?_;have u0:iI E1 s.h w E1 s.h w1:=q2;have af3:E1.ι s.n=none:=r.oI _ (aC _);have uI:=iI.iter (ob:=.mapIter (some b) eD #[] eD) q2.good af3 zw;have u1:=u0.trans uI;have QO:m<s.n:=by
  rcases bO m s.n with q|q
  . exact q
  . have:=r.oI m q;rw[e1]at this;cases this
 have amV:b<w1.heap.size:=q2.good.ny m b 0 e1;have FI:∀k,k<s.n->(E1.put s.n w1.heap.size 0 0).ι k=E1.ι k:=fun k hk=>Env.fG L;have amW:xF I E1 s.h w m s.n kd C C w1.heap.size b (E1.put s.n w1.heap.size 0 0) (s.h.set m none) (w1.alloc (.mapIter (some b) eD #[] eD)):=by
  have hkn:∀k,(s.h.set m none).get k≠none->s.h.get k≠none/\k≠m:=by
   intro k hk;rw[H.eY _ _ _ zw]at hk;split at hk
   . exact absurd rfl hk
   . rename_i z;exact⟨hk,z⟩
  have af4:∀k z b',s.h.get k≠none->(E1.put s.n w1.heap.size 0 0).ι k=some (b',z)->E1.ι k=some (b',z):=by
   intro k z b' hk e;by_cases q:k=s.n
   . subst q;obtain⟨o,ho⟩:=bh.1 hk;obtain⟨b2,z2,e2,_⟩:=r.good.rel _ o ho;rw[af3]at e2;cases e2
   . rwa [Env.fG q]at e
  refine⟨.of u1 FI hn,⟨⟨#[],gi,eD,heap_alloc_new,by rw[jT amV];exact hb,hM,?_⟩⟩,by rw[FI m QO];exact e1,Env.ff,fun k z hk e=>?_,fun k z hk e=>?_,by simp,by simp;omega,u0.size,L⟩
  . obtain⟨l,p1,p2⟩:=hM.row;refine⟨l,p1,?_⟩;have:(leftOf gi #[]).toList=gi.toList:=by rw[pI];simp
    rw[this];exact p2
  . have:=q2.good.ny k _ _ (af4 k z _ (hkn k hk).1 e);omega
  . obtain⟨k1,k2⟩:=hkn k hk;exact q2.good.inj m k b 0 z (Ne.symm k2) ⟨_,Vp,rfl⟩ k1 e1 (af4 k z _ k1 e)
 have R1:eG s.h m:=⟨_,Vp,rfl⟩;have r1:kI (E1.put s.n w1.heap.size 0 0) rt { S:=Ap,h:=s.h.set m none,n:=s.n+1,gD:=s.gD } ((a.put c.o0.dst v1).put c.oR.dst (.pointer (some ⟨w1.heap.size,0,none⟩))) (w1.alloc (.mapIter (some b) eD #[] eD)):=by
  refine⟨uI.good,fun k hk=>?_,jO (ku uI.le rf) hp1 ⟨w1.heap.size,0,Env.ff,rfl⟩ (by rw[iR,r.size];exact hdR),by rw[iR,iR];exact r.size,by rw[gF,gF];exact jg uI.le _ _ r.gD⟩;have hk:s.n+1<=k:=hk;rw[Env.fG L];exact r.oI k (by show s.n<=k;omega)
 show(Code.block _ _).wp P hL _ _;refine wp_block (wp_loop_rounds (C.length+1) ?_);have key:∀(nn:Nat) (iO left:ae) (s1:St) (E:Env) (a:Act) (w2:World),left.length<nn->List.Perm (iO++left) C->hc iO s1->s.n+1<=s1.n->kI E rt s1 a w2->xF I E1 s.h w m s.n kd C left w1.heap.size b E s1.h w2->
  Code.rounds P (.seq (.region c.g1 #[c.oN,c.oX] false) (.seq (.cond c.tok .skip (.exit c.bl)) (.block c.b1 (.seq (.region c.g2 (c.oE::c.post).toArray false) c.rest)))) (Exit.inBlock c.bl hL) nn a w2:=by
  intro nn
  induction nn with
  |zero=>intro iO left s1 E a w2 hl;omega
  |succ nn ih=>
   intro iO left s1 E a w2 hl FY hJ Ew r1 cx;rw[rounds_succ];obtain⟨fr,hS,yN,af5,Jv⟩:=LL iO left s1 hJ FY;obtain⟨xV,E2,r2,u2⟩:=hS _ _ _ r1 Ew;have cx:=cx.step (n1:=s.n+1) L L L u2;have hev:∀{E:Env} {fr:St} {a:Act} {w:World},kI E rt fr a w->E.ι s.n=some (w1.heap.size,0)->fr.S.get tI=some (.ptr (some (s.n,0)))->a.eval (.tmp tI)= .pointer (some ⟨w1.heap.size,0,none⟩):=by
    intro E fr a w r e hf;obtain⟨x',g1,b',z',g2,g3⟩:=r.S tI _ hf;rw[e]at g2;simp only[an,aB]at g2;obtain⟨rfl,rfl⟩:=g2;simp only[Act.eval,ck,g1,Option.getD_some];exact g3
   refine wp_seq ((wpIn_wide (n:=0)).1 (wpIn_region_list (F:=fz none) ?_));show wpListIn (fz none) 0 P _ _ [c.oN,c.oX] a w2;rcases V4 (P:=P) cx.ne cx.it c.oN.type with⟨vt,fU⟩|⟨e,kN,kk,vv,w3,hp,hk,hv,fU,td,it',z1,z2,z3,z4,z5⟩
   . obtain⟨yb,sD,p1,p2,p3,p4⟩:=af5 vt;refine Jt J.gN J.opN (hev r2 cx.ei yN) fU ?_;have r3:kI E2 rt { fr with S:=yb } (a.put c.oN.dst (.tuple #[.bool false])) w2:=⟨r2.good,r2.oI,jO r2.S p1 ⟨[.bool false],⟨_,[],rfl,rfl,rfl⟩,rfl⟩ (sz r2 hdN),by rw[iR];exact r2.size,by rw[gF];exact r2.gD⟩;refine lp (vA:=none) (Hu P) [c.oX] _ .normal sD (.inl rfl) (fun o ho=>by rw[au]at ho;subst ho;exact hdX) p2 E2 _ w2 _ r3 ?_;intro E' a' w' x' u fT qb r' tF;cases x'<;>first|exact tF.elim|skip
     have K1:s.n+1<=sD.n:=bR xV qb;have cx2:=cx.step (n1:=s.n+1) L L L (l7.of u fT xV);show(Code.seq (.cond c.tok .skip (.exit c.bl)) _).wp P _ a' w';refine wp_seq (wp_cond_false (pA r'.good.jy r'.S p3) (wp_exit ?_));show Exit.inBlock c.bl hL (.exit c.bl) a' w';simp only[Exit.inBlock,if_true];have ub:=cx2.back R1 e1 zw;exact k .normal _ E' a' w' p4 ub (by show I<=sD.n;omega) ⟨ub.good,r'.oI,r'.S,r'.size,r'.gD⟩
   . obtain⟨yb,s2,YU,s4,p1,p2,p3,p4,p5,p6,p7,p8,hT⟩:=Jv e kN hp;refine Jt J.gN J.opN (hev r2 cx.ei yN) fU ?_;have cx1:=cx.af2 it' z1 z2 z3 z4 z5;have r3:kI E2 rt { fr with S:=yb } (a.put c.oN.dst (.tuple #[.bool true,kk,vv])) w3:=
      ⟨cx1.qT.good,r2.oI,jO r2.S p1 ⟨[.bool true,kk,vv],⟨_,_,rfl,⟨_,_,kW _ _ hk,⟨_,[],kW _ _ hv,rfl,rfl⟩,rfl⟩,rfl⟩,rfl⟩ (sz r2 hdN),by rw[iR];exact r2.size,by rw[gF];exact r2.gD⟩
     refine lp (vA:=none) (Hu P) [c.oX] _ .normal s2 (.inl rfl) (fun o ho=>by rw[au]at ho;subst ho;exact hdX) p2 E2 _ w3 _ r3 ?_;intro E3 a3 w4 x' u fT qb r4 tF;cases x'<;>first|exact tF.elim|skip
     have cx3:=cx1.step (n1:=s.n+1) L L L (l7.of u fT xV);show(Code.seq (.cond c.tok .skip (.exit c.bl)) _).wp P _ a3 w4;refine wp_seq (wp_cond_true (pA r4.good.jy r4.S p3) (wp_skip ?_));show(Code.block c.b1 _).wp P _ a3 w4;refine wp_block (wp_seq ((wpIn_wide (n:=0)).1 (wpIn_region_list (F:=fz none) ?_)));have hh:w4.heap[w1.heap.size]? =w3.heap[w1.heap.size]?/\w4.heap[b]? =w3.heap[b]?:=
      ⟨u.keep _ cx1.rlt fun k z hk=>cx1.hr k z hk.live,u.keep _ cx1.blt fun k z hk=>cx1.hb k z hk.live⟩
     show wpListIn (fz none) 0 P _ _ (c.oE::c.post) a3 w4;refine Pm J.gE J.opE (hev r4 cx3.ei p4) (td w4 hh.1 hh.2) ?_;have r5:kI E3 rt { s2 with S:=YU } (a3.put c.oE.dst (.tuple #[kk,vv])) w4:=
      ⟨r4.good,r4.oI,jO r4.S p7 ⟨[kk,vv],⟨_,_,kW _ _ (ld u.le.fz _ _ hk),⟨_,[],kW _ _ (ld u.le.fz _ _ hv),rfl,rfl⟩,rfl⟩,rfl⟩ (sz r4 amT),by rw[iR];exact r4.size,by rw[gF];exact r4.gD⟩
     refine lp (vA:=none) (Hu P) c.post _ .normal s4 (.inl rfl) hdP p8 E3 _ w4 _ r5 ?_;intro E4 a4 w5 x' u4 af6 hn4 r6 tF;cases x'<;>first|exact tF.elim|skip
     have K1:s.n+1<=s2.n:=by rw[p6];exact xV
     have cx4:=cx3.step (n1:=s.n+1) L L L (l7.of u4 af6 K1);have hn5:s.n+1<=s4.n:=bR K1 hn4;show c.rest.wp P _ a4 w5;refine hT E4 a4 w5 _ r6 hn5 fun y s' E' a' w' q u' qb r'=>?_;have cx5:=cx4.step (n1:=s.n+1) L L L u';have ub:=cx5.back R1 e1 zw;have uM:hc (iO++[e]) s'->Code.rounds P (.seq (.region c.g1 #[c.oN,c.oX] false) (.seq (.cond c.tok .skip (.exit c.bl)) (.block c.b1 (.seq (.region c.g2 (c.oE::c.post).toArray false) c.rest)))) (Exit.inBlock c.bl hL) nn a' w':=by
      intro hJ';refine ih (iO++[e]) kN s' E' a' w' ?_ ?_ hJ' qb r' cx5
      . have:=hp.length_eq;simp only[aT]at this;omega
      . refine List.Perm.trans ?_ FY;rw[bA];exact List.Perm.append_left iO hp.symm
     have pR:∀y,y≠ .normal->mK c.bl (fun y s'=>cs y (Pn m kd C s')) y s'->Exit.inBlock c.bl hL y a' w':=by
      intro y hy q;have Fx:∀y,cs y (Pn m kd C s')->hL y a' w':=fun y q=>k y _ E' a' w' q ub (by show I<=s'.n;omega) ⟨ub.good,r'.oI,r'.S,r'.size,r'.gD⟩;cases y<;>first|exact absurd rfl hy|exact Fx _ q|skip
      rename_i j;simp only[Exit.inBlock,mK]at q ⊢;split
      . rename_i he;rw[aF he]at q;exact Fx _ q
      . rename_i he;rw[aJ he]at q;exact Fx _ q
     cases y with
     |normal=>exact uM q
     |exit j=>
      simp only[mK]at q;by_cases he:j=c.b1
      . rw[aF he]at q;have e2:Exit.inBlock c.b1 (Exit.then (Code.rounds P (.seq (.region c.g1 #[c.oN,c.oX] false) (.seq (.cond c.tok .skip (.exit c.bl)) (.block c.b1 (.seq (.region c.g2 (c.oE::c.post).toArray false) c.rest)))) (Exit.inBlock c.bl hL) nn) (Exit.inBlock c.bl hL)) (.exit j) a' w':=by
         simp only[Exit.inBlock];rw[aF he];exact uM q
        exact e2
      . rw[aJ he]at q;have e2:Exit.inBlock c.b1 (Exit.then (Code.rounds P (.seq (.region c.g1 #[c.oN,c.oX] false) (.seq (.cond c.tok .skip (.exit c.bl)) (.block c.b1 (.seq (.region c.g2 (c.oE::c.post).toArray false) c.rest)))) (Exit.inBlock c.bl hL) nn) (Exit.inBlock c.bl hL)) (.exit j) a' w':=by
         simp only[Exit.inBlock];rw[aJ he];exact pR (.exit j) (by simp) q
        exact e2
     |goto l=>exact pR (.goto l) (by simp) q
     |ret=>exact pR .ret (by simp) q
     |panic ch=>exact pR (.panic ch) (by simp) q
     |outgrown=>exact pR .outgrown (by simp) q
 exact key (C.length+1) [] C _ _ _ _ (Nat.lt_succ_self _) (.refl _) X (aC _) r1 amW
theorem zN{P:Program}{I rt:Nat}{c:r7}{s:St}{cs:Exit->St->Prop}{xR:Operand}{tI m:Nat}{kd:Option IntKind}{C:ae}{v0:V}{kH Ap:H V}(W:P.follows .mixedOrders=true)(J:tc P rt c xR tI)
  (h0:dH P c.o0 s.S s.h s.n=some (.val v0 s.h s.n)) (hp0:jj s.S c.o0.dst v0=some kH) (M:iX kH xR=some (.map (some m))) (Vp:s.h.get m=some (.dy kd C)) (zw:m<fW) (hp1:jj kH c.oR.dst (.ptr (some (s.n,0)))=some Ap)
  (hc:ae->St->Prop) (X:hc [] { S:=Ap,h:=s.h.set m none,n:=s.n+1,gD:=s.gD })
  (LL:∀iO left s1,hc iO s1->List.Perm (iO++left) C->∃be fr,fe (s.n+1) be s1=some fr/\fr.S.get tI=some (.ptr (some (s.n,0)))/\
   (left=[]->∃yb sD,jj fr.S c.oN.dst (.ew [.bool false])=some yb/\jo P V6 #[c.oN,c.oX] [c.oX] { fr with S:=yb }=some (.normal,sD)/\iX sD.S c.tok=some (.bool false)/\cs .normal (Pn m kd C sD))/\
   (∀e kN,List.Perm left (e::kN)->∃yb s2 YU s4,jj fr.S c.oN.dst (.ew [.bool true,e.1.iZ,e.2.iZ])=some yb/\jo P V6 #[c.oN,c.oX] [c.oX] { fr with S:=yb }=some (.normal,s2)/\iX s2.S c.tok=some (.bool true)/\s2.S.get tI=some (.ptr (some (s.n,0)))/\s2.h=fr.h/\s2.n=fr.n/\
    jj s2.S c.oE.dst (.ew [e.1.iZ,e.2.iZ])=some YU/\jo P V6 (c.oE::c.post).toArray c.post { s2 with S:=YU }=some (.normal,s4)/\
    TG P (s.n+1) rt c.rest s4 (mK c.b1 (andThen (hc (iO++[e])) (mK c.bl fun y s'=>cs y (Pn m kd C s')))))):TG P I rt c.code s cs:=
 Ju W J h0 hp0 M Vp zw hp1 hc X fun iO left s1 hj hp=>by
  obtain⟨be,fr,hS,r⟩:=LL iO left s1 hj hp;exact⟨fr,.norm hS,r⟩
end Go.Eng
