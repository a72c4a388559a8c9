/- Lemmas of the engine. No conditions. -/
import Derived.Test.YtmjggdmekboefaaGreatJointW00
import Derived.Lib.UnsafeStr
import Derived.RangeFuncSeq
import Derived.TacticsIn
set_option linter.unusedVariables false
set_option linter.unusedSimpArgs false
set_option linter.unusedSectionVars false
namespace Go.Eng
open Go
section
variable{P:Program}{E:Env}{h:I O}{n:Nat}{w:World}
theorem BE(s:aa):dV E (Bq s) (s.map fun b=>Value.int .u8 b.toNat):=by
 refine iZ (by simp[Bq]) fun i v q=>?_;simp only[Bq,bE,Option.map_eq_some_iff]at q ⊢;obtain⟨b,q1,rfl⟩:=q;exact⟨_,⟨b,q1,rfl⟩,rfl⟩
theorem BF(s:aa):(fS s).map (V.int .u8)=Bq s:=by simp[fS,Bq]
theorem BG{ks:List Int}{o len:Nat}{vs:List Value}(r:dV E (((ks.map (V.int .u8)).drop o).take len) vs):vs=((ks.drop o).take len).map (Value.int .u8):=by
 rw[<- List.map_drop,<- dc]at r;revert r;generalize (ks.drop o).take len=l;intro r
 induction l generalizing vs with
 |nil=>exact r
 |cons x l ih=>
  obtain⟨y,ys,r0,rs,rfl⟩:=r;simp only[dQ]at r0;subst r0;rw[ih rs];rfl
theorem IT{m b s:Nat}{t:aa}(g:Good E h w)(hi:E.ι m=some (b,s))(e:tV (h.get m)=some t):∃c el fz xs,w.heap[b]? =some (.cells c el fz)/\s=0/\ir xs=t/\∀(j:Nat) (x:Int),xs[j]? =some x->c[j]? =some (.int .u8 x):=by
 unfold tV at e;split at e
 . rename_i el zO t' S;cases e;obtain⟨b',A,AE,c,fz,xs,Q,R,_,_,h3,h4⟩:=g.rel m _ S;rw[hi]at AE;cases AE;exact⟨c,el,fz,xs,Q,R,h3,h4⟩
 . cases e
theorem LN{m b s:Nat}{ks:List Int}(g:Good E h w)(hi:E.ι m=some (b,s))(e:zP (h.get m)=some ks):∃c el fz,w.heap[b]? =some (.cells c el fz)/\lP E s (ks.map (.int .u8)) c:=by
 unfold zP at e;split at e
 . rename_i ks' S;cases e;obtain⟨b',A,AE,c,el,fz,Q,_,_,R⟩:=g.rel m _ S;rw[hi]at AE;cases AE;exact⟨c,el,fz,Q,R⟩
 . rename_i ks' S;cases e;obtain⟨b',A,AE,c,el,fz,Q,_,R⟩:=g.rel m _ S;rw[hi]at AE;cases AE;exact⟨c,el,fz,Q,nB.2 R⟩
 . cases e
theorem BH:∀(bs:ag) (s:aa) (bs':List Value),qi bs=some s->dV E bs bs'->
  ∃ns:List Int,bs'=ns.map (Value.int .u8)/\s=ns.map fun n=>UInt8.ofNat n.toNat
 | [],s,bs',e,r=>by
   simp only[qi,aq]at e;subst e;simp only[dV]at r;subst r;exact⟨[],rfl,rfl⟩
 |x::xs,s,bs',e,r=>by
  obtain⟨y,ys,rx,rs,rfl⟩:=r;cases x with
  |int k m=>
   cases k<;>simp only[qi]at e<;>first|(cases e;done)|skip
   cases H:qi xs with
   |none=>simp[H]at e
   |some t=>
    simp only[H,aq]at e;subst e;simp only[dQ]at rx;subst rx;obtain⟨ns,Q,R⟩:=BH xs t ys H rs;exact⟨m::ns,by simp[Q],by simp[R]⟩
  |_=>simp[qi]at e
theorem sF:∀(ns:List Int) (r:ByteArray),ns.foldl (fun r n=>r.push (UInt8.ofNat n.toNat)) r=⟨r.data++(ns.map fun n=>UInt8.ofNat n.toNat).toArray⟩
 | [],r=>by simp
 |n::ns,r=>by
  simp only[List.foldl_cons];rw[sF ns];simp[ByteArray.push]
theorem IU{KC dst:TypeId}{x:V}{x':Value}{r:h2}(g:Good E h w)(hn:E.ι n=none)(rx:dQ E x x')(e:oD P KC dst x h n=some r):
  jI P E h n w (do pure (.value (<- convert KC dst x'))) r:=by
 unfold oD at e;split at e
 . rename_i d k k' m Q R;obtain rfl:=eB e;simp only[dQ]at rx;subst rx;refine ee g (v':=.int k (k.wrap m)) ?_ rfl;simp[convert,dL Q,dL R,Conv.intToInt]
 . rename_i d s Q R;obtain rfl:=eB e;simp only[dQ]at rx;subst rx;refine ee g (v':=.string ⟨s.toArray⟩) ?_ rfl;simp[convert,dL Q,dL R]
 . rename_i d k m Q R;obtain rfl:=eB e;simp only[dQ]at rx;subst rx;refine ee g (v':=.string (Utf8.encode m)) ?_ (by show _=_;unfold gP;simp);simp[convert,dL Q,dL R,Conv.intToString]
 . rename_i el s Q R;simp only[dQ]at rx;subst rx;split at e
   . rename_i hu;cases ho:newObj h n (.own .u8 (fS s))with
     |none=>simp[ho]at e
     |some p=>
      obtain⟨h',n'⟩:=p;simp only[ho,aq]at e;subst e;have mg:(⟨s.toArray⟩:ByteArray).size=s.length:=by show s.toArray.size=_;simp
      have gi:=run_bytes_of_string w KC dst el ⟨s.toArray⟩ Q R hu;rw[mg]at gi;have n5:s.length<=grownCap w s.length 0 el:=by simp only[grownCap,Question.cut];omega
      have K:(bytesRow ⟨s.toArray⟩ (grownCap w s.length 0 el)).size=grownCap w s.length 0 el:=by simp[bytesRow,mg];omega
      refine Gr (r:=.is .u8 (fS s)) (w1:=w.drew) (c:=bytesRow ⟨s.toArray⟩ (grownCap w s.length 0 el)) (el:=el) (fz:=((bytesRow ⟨s.toArray⟩ (grownCap w s.length 0 el)).size,(bytesRow ⟨s.toArray⟩ (grownCap w s.length 0 el)).size+1)) (v':=.slice (some ⟨w.heap.size,0,none⟩) s.length (grownCap w s.length 0 el)) g hn trivial ho rfl rfl rfl rfl ?_ ?_ ?_ ?_
      . intro i hi q;simp at q;omega
      . simp only[Sem.run_bind,gi,Result.andThen_ok,Sem.run_pure]
      . intro i v q;obtain⟨v',q1,q2⟩:=gD (BE (E:=E) s) i v (by rw[<- BF];exact q);refine⟨v',?_,q2⟩;simp only[bytesRow,b5];rw[b6 (by simpa using (aO.1 q1).1)];simpa using q1
      . refine⟨w.heap.size,0,0,grownCap w s.length 0 el,Env.fM,fun _=>rfl,aK _,n5,?_,rfl⟩;simp[Env.put,K]
   . cases e
 . rename_i el f T Q R;have H:∃a jH,x'= .slice a 0 jH:=by obtain⟨a,jH,_,H,_⟩:=rx.1;exact⟨a,jH,H⟩
   obtain⟨a,jH,rfl⟩:=H;split at e
   . rename_i hu;obtain rfl:=eB e;refine ee g (v':=.string .empty) ?_ rfl;cases a<;>simp[convert,dL Q,dL R,dL hu,Conv.bytesToString,loadCells,loadCellsFrom]
   . cases e
 . rename_i el _ _ _ Q R;obtain⟨_,_,rfl⟩:=rx;split at e
   . rename_i hu;obtain rfl:=eB e;refine ee g (v':=.string .empty) ?_ rfl;simp[convert,dL Q,dL R,dL hu,Conv.bytesToString]
   . cases e
 . rename_i el m o len jH jm Q R;split at e
   . rename_i hu;split at e
     . rename_i Vm;subst Vm;obtain⟨b,sh,o',gp,hi,c1,c2,c3,c4,rfl⟩:=rx;split at e
       . rename_i s0 S;split at e
         . rename_i lj;obtain rfl:=eB e;obtain⟨c,Y7,fz,xs,rD,ZS,BI,DJ⟩:=IT g hi S;subst ZS;refine ee g (v':=.string ⟨((s0.drop o).take len).toArray⟩) ?_ rfl;rcases Nat.eq_zero_or_pos len with CS|Vn
           . subst CS;simp[convert,dL Q,dL R,dL hu,Conv.bytesToString,loadCells,loadCellsFrom];rfl
           . have lj:o+len<=s0.length:=lj.resolve_left G;have IV:xs.length=s0.length:=by rw[<- BI];simp[ir]
             have Dg:o'=0+o:=c1 G;subst Dg;have ZT:lP E 0 (xs.map (.int .u8)) c:=nB.2 (by simpa using DJ);have hb:=nE ZT (k:=o+len) G (by simp;omega);have Uc:=run_loadCells (P:=P) (o:=0+o) (n:=len) rD G;rw[BG (nF ZT (by simp;omega) G)]at Uc;rw[Sem.run_bind,run_convert_bytes_string w KC dst el _ len gp Q hu R,run_bytesToString w _ len gp _ Uc,sF];simp[<- BI,ir,dc,List.map_drop]
         . cases e
       . split at e
         . rename_i ks S;split at e
           . rename_i lj;obtain rfl:=eB e;obtain⟨c,Y7,fz,rD,DJ⟩:=LN g hi S;refine ee g (v':=.string ⟨(ir ((ks.drop o).take len)).toArray⟩) ?_ rfl;rcases Nat.eq_zero_or_pos len with CS|Vn
             . subst CS;simp[convert,dL Q,dL R,dL hu,Conv.bytesToString,loadCells,loadCellsFrom,ir];rfl
             . have lj:o+len<=ks.length:=lj.resolve_left G;have Dg:o'=sh+o:=c1 G;subst Dg;have hb:=nE DJ (k:=o+len) G (by simpa using lj);have Uc:=run_loadCells (P:=P) (o:=sh+o) (n:=len) rD G;rw[BG (nF DJ (by simpa using lj) G)]at Uc;rw[Sem.run_bind,run_convert_bytes_string w KC dst el _ len gp Q hu R,run_bytesToString w _ len gp _ Uc,sF];simp[ir]
           . cases e
         . split at e
           . obtain rfl:=eB e;refine ee g (v':=.string .empty) ?_ rfl;simp[convert,dL Q,dL R,dL hu,Conv.bytesToString,loadCells,loadCellsFrom]
           . rename_i CS;split at e
             . rename_i T S;cases K:cut T o len with
               |none=>simp[K]at e
               |some bs=>
                simp only[K]at e;cases ht:qi bs with
                |none=>simp[ht]at e
                |some s=>
                 simp only[ht,aq]at e;subst e;obtain⟨lj,rfl⟩:=yQ K;have Vn:0<len:=by
                  cases len with
                  |zero=>exact absurd rfl CS
                  |succ _=>omega
                 have Dg:o'=sh+o:=c1 G;subst Dg;obtain⟨b',sh',AE,c,Y7,fz,rD,_,_,DJ⟩:=g.rel m _ S;rw[hi]at AE;cases AE;have hb:=nE DJ (k:=o+len) G lj;have Uc:=run_loadCells (P:=P) (o:=sh+o) (n:=len) rD G;obtain⟨ns,n1,n2⟩:=BH _ s _ ht (nF DJ lj G);rw[n1]at Uc;refine ee g (v':=.string ⟨s.toArray⟩) ?_ rfl;rw[Sem.run_bind,run_convert_bytes_string w KC dst el _ len gp Q hu R,run_bytesToString w _ len gp ns Uc,sF,<- n2];simp
             . cases e
     . cases e
   . cases e
 . cases e
theorem DM{t:TypeId}{i:TypeInfo}{z:V}(hi:P.info? t=some i)(hz:zeroOf P t=some z):∃z',i.zero=some z'/\(zeroValue t).run P w= .ok z' w/\dQ E z z':=by
 obtain⟨z',Q,R,i',h3,h4⟩:=kT (P:=P) (w:=w) E hz;rw[hi]at h3;cases h3;exact⟨z',h4,Q,R⟩
theorem Gu(k:IntKind)(ks:List Int):∀n,(Rt ks n).map (V.int k)=gV (ks.map (V.int k)) n
 |0=>rfl
 |n+1=>by rw[Rt,gV,bR,Gu k ks n]
theorem NN{z z':ag}(h:wk z z'):∀n,wk (gV z n) (gV z' n)
 |0=>iO _
 |n+1=>yL h (NN h n)
theorem Gv(ds:ai):∀n,D.fN (Ev ds n)=gV (D.fN ds) n
 |0=>rfl
 |n+1=>by rw[Ev,gV,<- Gv ds n,D.ga,D.ga,D.ga,bR]
theorem KE{ds:ai}(h:∀x∈ds,x.scalar=true):∀n,∀x∈Ev ds n,x.scalar=true
 |0,x,H=>by simp[Ev]at H
 |n+1,x,H=>(bf.1 H).elim (h x) (KE h n x)
theorem BJ(z:ag)(n:Nat):wk (gV z n) (uT z n).jJ/\(uT z n).sc:=by
 have key:∀z:ag,wk (gV z n) (match ij z with|some ds=>Row.ds (Ev ds n)|none=>Row.vs (gV z n)).jJ/\(match ij z with|some ds=>Row.ds (Ev ds n)|none=>Row.vs (gV z n)).sc:=by
  intro z;split
  . rename_i ds h;refine⟨?_,KE (nD h) n⟩;simp only[Row.jJ,Gv];exact NN (xo h) n
  . exact⟨iO _,trivial⟩
 unfold uT;split
 . rename_i k x r;split
   . rename_i ks h;refine⟨?_,trivial⟩;rw[rj h];simp only[Row.jJ,Gu];exact iO _
   . exact key _
 . exact key _
theorem EJ{t:TypeId}{l c:V}{l' c':Value}{r:h2}(g:Good E h w)(hn:E.ι n=none)(rl:dQ E l l')(rc:dQ E c c')(e:nu P t l c h n=some r):
  jI P E h n w (do pure (.value (<- Instr.makeSlice t l' c'))) r:=by
 unfold nu at e;split at e
 . rename_i el k l k' c he;simp only[dQ]at rl rc;subst rl;subst rc;split at e
   . rename_i i z hi hz;simp only at e;split at e
     . rename_i hq;obtain⟨q1,q2,q3,q4,q5⟩:=hq;cases ho:newObj h n (uT z.cells (IntKind.i64.wrap c).toNat).DE with
       |none=>simp[ho]at e
       |some p=>
        obtain⟨h',n'⟩:=p;simp only[ho,aq]at e;subst e;obtain⟨z',KF,Gw,hz3⟩:=DM (P:=P) (E:=E) (w:=w) hi hz;have Y4:=iA hz3;have NG:=BC Y4 G (IntKind.i64.wrap c).toNat;rw[q2]at NG;generalize hC:(IntKind.i64.wrap c)=be at *;generalize W:(IntKind.i64.wrap l)=iX at *;have hu:=Gt he;have mg:(sizeOf el).run P w= .ok i.size w:=by simp[sizeOf,typeInfo,hi]
        refine sB (w1:=w) (c:=(Array.range (be.toNat*i.size)).map (z'.cells[·%z'.cells.size]!)) (el:=el) (v':=.slice (some ⟨w.heap.size,0,none⟩) iX.toNat be.toNat) g hn (BJ _ _).2 ho rfl rfl rfl rfl ?_ (by refine xp (BJ _ _).1 ?_;exact nU NG) ?_
        . have RE:¬((i.bytes:Int)*be>2^48):=by omega
          simp only[Instr.makeSlice,Sem.run_bind,dL hu,Result.andThen_ok,asInt,asIntOf,Sem.run_pure,typeInfo,run_program,hi,hC,W];rw[aB (by simp;omega)];simp only[Sem.run_bind,run_askRoom,Result.andThen_ok,mg,Sem.run_ite,Sem.run_pure,Gw];by_cases h0:be.toNat*i.size=0
          . rw[aE h0];have e0:∀f:Nat->Value,Array.map f (Array.range 0)=#[]:=fun f=>by apply Array.ext' ;simp
            simp[h0,newRow,e0]
          . rw[aB h0];simp[newRow]
        . refine⟨w.heap.size,0,0,be.toNat,Env.fM,fun _=>rfl,G,aK _,?_,rfl⟩;simp[Env.put]
     . cases e
   . cases e
 . cases e
theorem Gx{size k:Nat}{x:V}{new:Row}{x':Value}(g:Good E h w)(r:dQ E x x')(e:jo h size x=some (k,new)):
  (∀w1:World,(Builtin.lenOf x').run P w1= .ok k w1)/\new.jJ.length=k*size/\new.sc/\
   ∃ki:Array Value,(∀w1:World,w1.heap=w.heap->(Builtin.firstCells size k x').run P w1= .ok ki w1)/\dV E new.jJ ki.toList:=by
 unfold jo at e;split at e
 . rename_i len _ _;split at e
   . rename_i hl;obtain⟨rfl,rfl⟩:=fW e;obtain⟨_,_,rfl⟩:=r;exact⟨fun _=>rfl,by simp[Row.jJ],trivial,#[],fun _ _=>rfl,by simp[dV,Row.jJ]⟩
   . cases e
 . rename_i m o len jH jm;split at e
   . rename_i Vm;subst Vm;obtain⟨b,sh,o',gp,hi,c1,c2,c3,c4,rfl⟩:=r;split at e
     . obtain⟨rfl,rfl⟩:=fW e;refine⟨fun _=>rfl,by simp[Row.jJ],trivial,#[],fun _ _=>?_,by simp[dV,Row.jJ]⟩;simp[Builtin.firstCells,loadCells,loadCellsFrom]
     . rename_i CS;split at e
       . rename_i ob S;split at e
         . rename_i rw0 BK;cases tw:rw0.cut o (len*jm)with
           |none=>simp[tw]at e
           |some x=>
            simp only[tw,aq,aF]at e;obtain⟨rfl,rfl⟩:=e;obtain⟨lj,H⟩:=yQ (Row.EB tw);have Vn:0<len:=by
             cases len with
             |zero=>exact absurd rfl CS
             |succ _=>omega
            have Dg:o'=sh+o:=c1 G;subst Dg;obtain⟨b',sh',AE,q0⟩:=g.rel m _ S;obtain⟨⟨c,Y7,fz,rD,mg,DJ⟩,IF⟩:=LJ BK q0;rw[hi]at AE;cases AE;have yS:sh+o+len*jm<=c.size:=by
             have:len*jm<=gp*jm:=cA _ G;omega
            refine⟨fun _=>rfl,by rw[H];simp;omega,Row.Nv tw IF,((c.toList.drop (sh+o)).take (len*jm)).toArray,fun w1 IK=>?_,by rw[H];simpa using nF DJ lj yS⟩;simp only[Builtin.firstCells];exact run_loadCells (by rw[IK];exact rD) yS
         . cases e
       . cases e
   . cases e
 . rename_i s;split at e
   . rename_i pG;obtain⟨rfl,rfl⟩:=fW e;simp only[dQ]at r;subst r;have mg:(⟨s.toArray⟩:ByteArray).size=s.length:=by show s.toArray.size=_;simp
     refine⟨fun _=>?_,by simp[fS,pG,Row.jJ],trivial,(s.map fun b=>Value.int .u8 b.toNat).toArray,fun w1 _=>?_,by simp only[Row.jJ,BF];exact BE s⟩
     . simp[Builtin.lenOf,mg]
     . simp only[Builtin.firstCells,Sem.run_pure];congr 1;apply Array.ext';simp
   . cases e
 . rename_i f len T;split at e
   . rename_i hl;obtain⟨rfl,rfl⟩:=fW e;obtain⟨⟨a,jH,vs,rfl,n5,hd,h0,xA⟩,_⟩:=r;have hvl:=oL hd;refine⟨fun _=>rfl,by simp only[Row.jJ,D.ga,bI];exact hl,iY hd,vs.toArray,fun w1 IK=>?_,by simpa[Row.jJ]using uX _ _ hd⟩;rcases Nat.eq_zero_or_pos len with hz|hp
     . have:=h0 hz;subst this;have hv:vs=[]:=by simpa using hvl
       subst hv;subst hz;cases a<;>simp[Builtin.firstCells,loadCells,loadCellsFrom]
     . obtain⟨b,o,c,rfl,C9,K⟩:=xA hp;obtain⟨⟨el,fz,rD⟩,_⟩:=g.iu b c C9;have ZU:(c.toList.drop o).take (len*size)=vs:=by
        apply List.ext_getElem?;intro j;rw[bN,bO];by_cases hj:j<len*size
        . rw[aE hj];have RF:j<vs.length:=by omega
          have:=K j _ (au RF);rw[au RF,<- this];simp
        . rw[aB hj,cK G]
       simp only[Builtin.firstCells];rcases Nat.eq_zero_or_pos (len*size)with q|q
       . have hn:vs=[]:=by simpa[hl,q]using hvl
         subst hn;rw[q];rfl
       . have yS:o+len*size<=c.size:=by
          have:((c.toList.drop o).take (len*size)).length=len*size:=by rw[ZU];omega
          simp at this;omega
         rw[run_loadCells (by rw[IK];exact rD) yS,ZU]
   . cases e
 . cases e
end
section
variable{P:Program}{E:Env}{h:I O}{n:Nat}{w:World}
theorem mQ(z:Array Value)(k:Nat):(Builtin.zeroCells z k).size=k*z.size:=by simp[Builtin.zeroCells]
theorem BL{LH size bytes:Nat}(q:fo LH size bytes=true):LH*bytes<=281474976710/\LH*size<=281474976710:=by
 simpa[fo]using q
theorem tx{b o:Nat}{el:TypeId}{fz:Nat×Nat}:∀(vs:List Value) (i:Nat) (w:World) (c:Array Value),w.heap[b]? =some (.cells c el fz)->
  (∀j,o+i<=j->j<o+i+vs.length->¬(fz.1<=j/\j<fz.2))->(∀v∈vs,v.oneCell'=true)->o+i+vs.length<=c.size->
  ∃w',(storeCells ⟨b,o,none⟩ vs i).run P w= .ok () w'/\w'.heap[b]? =some (.cells (putCells c (o+i) vs) el fz)/\w'.heap.size=w.heap.size/\w'.tape=w.tape/\w'.os=w.os/\w'.output=w.output/\
   ∀x,x≠b->w'.heap[x]? =w.heap[x]?
 | [],i,w,c,h,_,_,hn=>by
   refine⟨w,rfl,?_,rfl,rfl,rfl,rfl,fun _ _=>rfl⟩;rw[h];have:putCells c (o+i) []=c:=by simp[putCells]
   rw[this]
 |v::vs,i,w,c,h,hf,hv,hn=>by
  simp only[aR]at hn hf;have eM:o+i<c.size:=by omega
  have hnf:w.frozen? ⟨b,o+i,none⟩=false:=by
   have:=hf (o+i) (aK _) G;simp only[World.frozen?,h];simpa using this
  let w1:=w.setCell ⟨b,o+i,none⟩ v
  have IK:w1.heap[b]? =some (.cells (c.setIfInBounds (o+i) v) el fz):=by
   simp[w1,World.setCell,cP,h]
  obtain⟨w',e1,e2,e3,e4,e5,e6,e7⟩:=tx (o:=o) vs (i+1) w1 (c.setIfInBounds (o+i) v) IK (fun j Q R=>hf j G G) (fun v ZQ=>hv v (by simp[ZQ])) (by simp only[Array.size_setIfInBounds];omega);refine⟨w',?_,?_,by rw[e3];simp[w1],by rw[e4];rfl,by rw[e5];rfl,by rw[e6];rfl,?_⟩
  . simp only[storeCells,Sem.run_bind];rw[run_store P w _ v .plain (hv v (by simp)),Addr.iV,mM h,aZ eM];simp only[hnf,aM,cr,Result.andThen_ok];exact e1
  . rw[e2];have:o+(i+1)=o+i+1:=by omega
    rw[this,qK G]
  . intro x H;rw[e7 x H];simp[w1,World.setCell,cP,Ne.symm H]
theorem xC:∀{l:ag} {t:aa},tY l=some t->∃xs:List Int,l=xs.map (.int .u8)/\ir xs=t
 | [],t,h=>by simp only[tY,aq]at h;subst h;exact⟨[],rfl,rfl⟩
 |v::r,t,h=>by
  unfold tY at h;split at h
  . rename_i q;cases q
  . rename_i x r' q;cases q;split at h
    . rename_i l hl;obtain rfl:=eB h;obtain⟨xs,Q,R⟩:=xC hl;exact⟨x::xs,by rw[Q];rfl,by rw[<- R];rfl⟩
    . cases h
  . cases h
theorem EK{r:Row}{t:aa}(h:tZ r=some t):∃xs:List Int,r.jJ=xs.map (.int .u8)/\ir xs=t:=by
 unfold tZ at h;split at h
 . rename_i ks;cases h;exact⟨ks,rfl,rfl⟩
 . exact xC h
 . cases h
theorem LO{xs:List Int}{l:List Value}(r:dV E (xs.map (.int .u8)) l):l=xs.map (.int .u8):=by
 induction xs generalizing l with
 |nil=>exact r
 |cons x xs ih=>
  obtain⟨y,ys,r0,rs,rfl⟩:=r;simp only[dQ]at r0;subst r0;rw[ih rs];rfl
theorem jW:∀t:aa,ir (fS t)=t
 | []=>rfl
 |b::r=>by
  have ih:=jW r;simp only[ir,fS,cC,List.map_map]at ih ⊢;rw[ih];simp
theorem Gy(xs:List Int):(ir xs).length=xs.length:=by simp[ir]
theorem lz{st xt el:TypeId}{ty:TypeId}{xd:TypeDesc}{i:TypeInfo}{z':Value}(hu:P.underlying st=some (.slice el))(H:P.underlying xt=some xd)(LP:(∃y,xd= .slice y)\/xd= .string)
  (hi:P.info? el=some i) (hz:i.zero=some z') {base:Option Addr} {sLen sCap k:Nat} {x':Value} {old new:Array Value}
  (jO:∀w1:World,(Builtin.lenOf x').run P w1= .ok k w1) (n7:∀w1:World,w1.heap=w.heap->(Builtin.firstCells i.size sLen (.slice base sLen sCap)).run P w1= .ok old w1)
  (qJ:∀w1:World,w1.heap=w.heap->(Builtin.firstCells i.size k x').run P w1= .ok new w1)
  (n5:sCap<sLen+k) (hb:0<i.bytes) (qo:(sLen+k)*i.bytes<=281474976710):
  (Builtin.append_ #[st,xt] ty #[.slice base sLen sCap,x']).run P w=
   .ok (.slice (some ⟨w.heap.size,0,none⟩) (sLen+k) (grownCap w (sLen+k) sCap el))
    (w.drew.alloc (.cells (old++new++Builtin.zeroCells z'.cells (grownCap w (sLen+k) sCap el-(sLen+k))) el)):=by
 have asB:Builtin.nextslicecap (sLen+k) sCap*i.bytes<=281474976710656:=growslice_fits n5 G;have zW:¬(sLen+k<=sCap):=by omega
 have Ud:¬(281474976710656<Builtin.nextslicecap (sLen+k) sCap*i.bytes):=by omega
 have ZV:¬(i.bytes=0):=by omega
 have ho:=n7 w.drew rfl;have hn:=qJ w.drew rfl;rcases LP with⟨y,rfl⟩|rfl
 . simp[Builtin.append_,dL hu,dL H,sizeOf,typeInfo,zeroValue,hi,hz,jO,zW,Ud,ZV,Question.forced,newRow,grownCap,ho,hn]
 . simp[Builtin.append_,dL hu,dL H,sizeOf,typeInfo,zeroValue,hi,hz,jO,zW,Ud,ZV,Question.forced,newRow,grownCap,ho,hn]
theorem run_append_room{st xt el:TypeId}{ty:TypeId}{xd:TypeDesc}{i:TypeInfo}(hu:P.underlying st=some (.slice el))(H:P.underlying xt=some xd)(LP:(∃y,xd= .slice y)\/xd= .string)
  (hi:P.info? el=some i) {base:Option Addr} {sLen sCap k:Nat} {x':Value} {new:Array Value}
  (jO:∀w1:World,(Builtin.lenOf x').run P w1= .ok k w1) (qJ:(Builtin.firstCells i.size k x').run P w= .ok new w) (n5:sLen+k<=sCap):
  (Builtin.append_ #[st,xt] ty #[.slice base sLen sCap,x']).run P w=
   ((match base with|some a=>storeCells (a.add (sLen*i.size)) new.toList|none=>pure ()).run P w).andThen fun _ w'=>.ok (.slice base (sLen+k) sCap) w':=by
 rcases LP with⟨y,rfl⟩|rfl
 . cases base<;>simp[Builtin.append_,dL hu,dL H,sizeOf,typeInfo,hi,jO,n5,qJ]
 . cases base<;>simp[Builtin.append_,dL hu,dL H,sizeOf,typeInfo,hi,jO,n5,qJ]
theorem LQ{eu:Array TypeId}{ty:TypeId}{args:ag}{dF:List Value}{r:h2}(g:Good E h w)(hn:E.ι n=none)(ra:dV E args dF)
  (e:xl P eu args h n=some r) (ha:eu.size=2):jI P E h n w (do pure (.value (<- Builtin.append_ eu ty dF.toArray))) r:=by
 unfold xl at e;split at e
 . rename_i st xt s x Q R;obtain⟨A,_,rs,⟨x',_,rx,mP,rfl⟩,rfl⟩:=ra;simp only[dV]at mP;subst mP;have mR:eu=#[st,xt]:=by
    apply Array.ext
    . simpa using ha
    . intro i q1 q2;have:i=0\/i=1:=by simp at q2;omega
      rcases this with rfl|rfl
      . rw[aZ q1]at Q;simpa using Q
      . rw[aZ q1]at R;simpa using R
   subst mR;split at e
   . rename_i el xd he H;split at e
     . rename_i i z Vo hi hz;have LP:(∃y,xd= .slice y)\/xd= .string:=by
        unfold IB at Vo;split at Vo
        . exact .inl ⟨_,rfl⟩
        . exact .inr rfl
        . cases Vo
       have hu:=Gt he;split at e
       . rename_i hq;obtain⟨q1,q2,q3⟩:=hq;obtain⟨z',KF,Gw,hz3⟩:=DM (P:=P) (E:=E) (w:=w) hi hz;have hzs:z'.cells.size=i.size:=by have:=eP (iA hz3);simp at this;omega
         split at e
         . rename_i k new ht;obtain⟨t1,t2,ZW,ki,t3,t4⟩:=Gx g rx ht;have Ra:ki.size=k*i.size:=by have:=eP t4;simp at this;omega
           split at e
           . rename_i afT;have IF:=Row.Nw afT ZW;split at e
             ·
              obtain⟨_,tw,rfl⟩:=rs;split at e
              . obtain rfl:=eB e;refine ee g (v':=.slice none 0 0) ?_ ⟨rfl,rfl,rfl⟩;rw[Sem.run_bind,run_append_room hu H LP hi t1 (t3 w rfl) G];rfl
              . rename_i IJ;have Y:0<k:=by
                 cases k with
                 |zero=>exact absurd rfl IJ
                 |succ _=>omega
                split at e
                . rename_i qo;cases ho:newObj h n (Bt el x new)with
                  |none=>simp[ho]at e
                  |some p=>
                   obtain⟨h',n'⟩:=p;simp only[ho,aq]at e;subst e;obtain⟨r1,r2⟩:=BL qo;have gi:=lz (w:=w) (ty:=ty) hu H LP hi KF (base:=none) (sLen:=0) (sCap:=0) (x':=x') (old:=#[]) t1 (fun _ _=>rfl) t3 G q2 (by simpa using r1);simp only[b5]at gi;have n5:k<=grownCap w k 0 el:=by simp only[grownCap,Question.cut];omega
                   have mg:(#[]++ki++Builtin.zeroCells z'.cells (grownCap w k 0 el-k)).size=grownCap w k 0 el*i.size:=by
                    simp only[Array.size_append,mQ,hzs,Ra,Array.size_empty];rw[b5,<- cW];congr 1;omega
                   have DJ:lP E 0 new.jJ (#[]++ki++Builtin.zeroCells z'.cells (grownCap w k 0 el-k)):=by
                    intro j v q;obtain⟨v',p1,p2⟩:=gD t4 j v q;refine⟨v',?_,p2⟩;have hj:j<ki.size:=by have:=(aO.1 p1).1;simpa using this
                    rw[b6 (by simp;omega)];simpa using p1
                   have hvs:dQ (E.put n w.heap.size 0 (#[]++ki++Builtin.zeroCells z'.cells (grownCap w k 0 el-k)).size) (.eS (some (n,0)) k k i.size) (.slice (some ⟨w.heap.size,0,none⟩) k (grownCap w k 0 el)):=by
                    refine⟨w.heap.size,0,0,grownCap w k 0 el,Env.fM,fun _=>rfl,aK _,n5,?_,rfl⟩;rw[mg];simp[Env.put]
                   have Y8:(do pure (.value (<- Builtin.append_ #[st,xt] ty #[.slice none 0 0,x'])):Sem Next).run P w= .ok (.value (.slice (some ⟨w.heap.size,0,none⟩) k (grownCap w k 0 el))) (w.drew.alloc (.cells (#[]++ki++Builtin.zeroCells z'.cells (grownCap w k 0 el-k)) el)):=by
                    simp only[Sem.run_bind,gi,Result.andThen_ok,Sem.run_pure]
                   unfold Bt at ho;split at ho
                   . rename_i t;obtain⟨gF,rfl,rfl⟩:=kG ho;simp only[jo]at ht;split at ht
                     case isFalse=>cases ht
                     rename_i pG;obtain⟨rfl,rfl⟩:=fW ht;have nG:=nB.1 DJ;have ua:=iL.alloc (n:=n) (ob:=.cells (#[]++ki++Builtin.zeroCells z'.cells (grownCap w t.length 0 el-t.length)) el) (o:=.tr el false t) (w:=w.drew) (g.same rfl) hn gF (by
                      refine⟨_,_,fS t,heap_alloc_new,rfl,by simp[Env.put,jN],⟨.inl rfl,fun _=>rfl⟩,jW t,fun j x H=>?_⟩;have:=nG j x H;simpa using this)
                     exact⟨_,_,_,.inl Y8,hvs,(iL.drew g).trans ua,fun m' qe=>Env.gQ qe,.inr rfl⟩
                   . exact sB (r:=new) (w1:=w.drew) (c:=#[]++ki++Builtin.zeroCells z'.cells (grownCap w k 0 el-k)) (el:=el) g hn ZW ho rfl rfl rfl rfl Y8 DJ hvs
                . cases e
             ·
              rename_i len T _;obtain⟨⟨a,jH,vs,rfl,n5,hd,RA,xA⟩,xB⟩:=rs;obtain⟨_,xB⟩:=xB rfl;simp only[Value.slice.injEq]at xB;obtain⟨_,_,hq⟩:=xB;have hq:=hq.symm;subst hq;split at e
              . obtain rfl:=eB e;refine ee g (v':=.slice a len len) ?_ ⟨⟨a,len,vs,rfl,n5,hd,RA,xA⟩,fun _=>⟨a,rfl⟩⟩;rw[Sem.run_bind,run_append_room hu H LP hi t1 (t3 w rfl) G];have RA:ki.toList=[]:=by simp at t2;simpa[t2]using eP t4
                rw[RA];cases a<;>rfl
              . rename_i IJ;have Y:0<k:=by
                 cases k with
                 |zero=>exact absurd rfl IJ
                 |succ _=>omega
                split at e
                . rename_i qo;obtain⟨qo,hl⟩:=qo;cases ho:newObj h n ((Row.ds T).app new).DE with
                  |none=>simp[ho]at e
                  |some p=>
                   obtain⟨h',n'⟩:=p;simp only[ho,aq]at e;subst e;obtain⟨r1,r2⟩:=BL qo;obtain⟨t1',_,_,AF,t3',t4'⟩:=Gx (P:=P) (size:=i.size) (x:=.eo true len T) (x':=.slice a len len) g ⟨⟨a,len,vs,rfl,n5,hd,RA,xA⟩,fun _=>⟨a,rfl⟩⟩ (k:=len) (new:=.ds T) (by simp only[jo,aE hl]);have gi:=lz (w:=w) (ty:=ty) hu H LP hi KF (base:=a) (sLen:=len) (sCap:=len) (x':=x') (old:=AF) t1 t3' t3 G q2 r1;have n5:len+k<=grownCap w (len+k) len el:=by simp only[grownCap,Question.cut];omega
                   have hol:AF.size=len*i.size:=by have:=eP t4';simp[Row.jJ,D.ga,hl]at this;omega
                   have mg:(AF++ki++Builtin.zeroCells z'.cells (grownCap w (len+k) len el-(len+k))).size=grownCap w (len+k) len el*i.size:=by
                    simp only[Array.size_append,mQ,hzs,Ra,hol];rw[<- cW,<- cW];congr 1;omega
                   refine sB (r:=(Row.ds T).app new) (w1:=w.drew) (c:=AF++ki++Builtin.zeroCells z'.cells (grownCap w (len+k) len el-(len+k))) (el:=el) (v':=.slice (some ⟨w.heap.size,0,none⟩) (len+k) (grownCap w (len+k) len el)) g hn (Row.II (iY hd) ZW) ho rfl rfl rfl rfl ?_ ?_ ?_
                   . simp only[Sem.run_bind,gi,Result.andThen_ok,Sem.run_pure]
                   . refine xp (Row.IG _ _) ?_;intro j v q;have q':=iF t4' t4;obtain⟨v',p1,p2⟩:=gD q' j v q;refine⟨v',?_,p2⟩;have hj:=(aO.1 p1).1;rw[b6 (by simp at hj ⊢;omega)];rw[<- bJ];simpa using p1
                   . refine⟨w.heap.size,0,0,grownCap w (len+k) len el,Env.fM,fun _=>rfl,aK _,n5,?_,rfl⟩;rw[mg];simp[Env.put]
                . cases e
             ·
              rename_i m o len jH jm _;split at e
              . rename_i Y9;obtain⟨u1,u2,u3⟩:=Y9;subst u1;obtain⟨b,sh,o',gp,jr,c1,c2,c3,c4,rfl⟩:=rs;obtain⟨r1,r2⟩:=BL u2;split at e
                ·
                 rename_i RG zO s0 S;split at e
                 case h_2=>cases e
                 rename_i t ht;split at e
                 case isFalse=>cases e
                 rename_i ZX;obtain⟨⟨Za,ZY⟩,⟨jO,xB⟩,Dh,afV⟩:=ZX;obtain⟨b',sh',AE,c,fz,xs,rD,ZS,mg,⟨C9,IW⟩,BI,mh⟩:=g.rel m _ S;rw[jr]at AE;cases AE;subst ZS;have Dg:o'=0:=by have:=c1 ZY;omega
                 subst Dg;obtain⟨ys,hy1,hy2⟩:=EK ht;rw[hy1]at t4;have hnv:=LO t4;have asE:xs.length=s0.length:=by rw[<- BI,Gy]
                 generalize hX:xs.take len=Rb;have IV:Rb.length=len:=by rw[<- hX,bn];omega
                 have Zb:∀(j:Nat) (x:Int),Rb[j]? =some x->c[j]? =some (.int .u8 x):=fun j x H=>by
                  rw[<- hX,bN]at H;split at H
                  . exact mh j x H
                  . cases H
                 have hyl:ys.length=k:=by have:=aH List.length hy1;simp at this;rw[<- this,t2,Dh];omega
                 cases ho:newObj (h.set m none) n (.tr RG zO (s0.take len++t))with
                 |none=>simp[ho]at e
                 |some p=>
                  obtain⟨h',n'⟩:=p;simp only[ho,aq]at e;subst e;subst afV;obtain⟨gF,rfl,rfl⟩:=kG ho;have Vp:ir (Rb++ys)=s0.take len++t:=by rw[<- hX,<- BI,<- hy2];simp[ir,dc]
                  have ZZ:(s0.take len++t).length=len+k:=by rw[<- Vp,Gy,aJ,IV,hyl]
                  by_cases qo:len+k<=gp
                  ·
                   have Gz:0+(len+k)*i.size<=c.size:=by
                    have:(len+k)*i.size<=gp*i.size:=cA _ qo;omega
                   rw[Dh]at Gz c4;have IP:∀v∈ki.toList,v.oneCell'=true:=by
                    intro v hv;rw[hnv]at hv;obtain⟨x,_,rfl⟩:=bQ.1 hv;rfl
                   have Rw:ki.toList.length=k:=by rw[hnv,bI,hyl]
                   obtain⟨w',e1,e2,e3,e4,e5,e6,e7⟩:=tx (P:=P) (o:=len) ki.toList 0 w c rD (fun j Q R h3=>by
                    have hj:j<c.size:=by omega
                    cases zO with
                    |true=>
                     have:=xB rfl;omega
                    |false=>have:=IW rfl;omega) IP G
                   have vp:len+ki.toList.length<=c.size:=by omega
                   have AR:=iL.move (n:=n) (A:=0) (o:=.tr RG zO (s0.take len++t)) g u3 gF hn ⟨_,S,rfl⟩ jr e3 e4 e5 e6 e7 (by
                    refine⟨_,fz,Rb++ys,e2,rfl,by rw[Nat.add_zero,jz vp];simp[Env.put,mg],⟨?_,IW⟩,Vp,fun j x H=>?_⟩
                    . rw[ZZ];cases zO with
                      |true=>have:=xB rfl;omega
                      |false=>exact .inl (IW rfl)
                    . rw[Nat.add_zero,mN vp];by_cases hj:j<len
                      . rw[bB G]at H;rw[aB G];exact Zb j x H
                      . rw[cM G,IV]at H;have RF:j-len<ys.length:=(aO.1 H).1;rw[aE G,hnv,bE,H];rfl)
                   refine⟨_,w',.slice (some ⟨b,0,none⟩) (len+k) gp,.inl ?_,?_,AR,fun m' qe=>Env.gQ qe,.inr rfl⟩
                   . rw[Sem.run_bind,run_append_room hu H LP hi t1 (t3 w rfl) qo];simp only[Addr.iV,Dh,cS,b5,e1,Result.andThen_ok,Sem.run_pure]
                   . refine⟨b,0,0,gp,Env.fM,fun _=>rfl,aK _,qo,?_,rfl⟩;simpa[Env.put,Dh]using c4
                  ·
                   have v1:0+len*i.size<=c.size:=by
                    have:len*i.size<=gp*i.size:=cA _ G;omega
                   have n7:(c.toList.drop 0).take (len*i.size)=Rb.map (Value.int .u8):=by
                    rw[Dh,cS]at *;apply List.ext_getElem?;intro j;rw[bN,bE];by_cases hj:j<len
                    . rw[aE hj,ct];have RF:j<Rb.length:=by omega
                      rw[au RF];have:=Zb j _ (au RF);simpa using this
                    . rw[aB hj,cK G];rfl
                   have hf:∀w1:World,w1.heap=w.heap->(Builtin.firstCells i.size len (.slice (some ⟨b,0,none⟩) len gp)).run P w1= .ok ((c.toList.drop 0).take (len*i.size)).toArray w1:=fun w1 IK=>by
                    simp only[Builtin.firstCells];exact run_loadCells (by rw[IK];exact rD) v1
                   have gi:=lz (w:=w) (ty:=ty) hu H LP hi KF t1 hf t3 G q2 r1;have n5:len+k<=grownCap w (len+k) gp RG:=by simp only[grownCap,Question.cut];omega
                   have uf:=iL.forget g u3;rw[n7]at gi;have CT:((Rb.map (Value.int .u8)).toArray).size=len:=by simp[IV]
                   have Rw:ki.size=k:=by rw[Ra,Dh,cS]
                   generalize hC:((Rb.map (Value.int .u8)).toArray++ki++Builtin.zeroCells z'.cells (grownCap w (len+k) gp RG-(len+k)))=be at gi;have hCs:be.size=grownCap w (len+k) gp RG*i.size:=by
                    rw[<- hC,Array.size_append,Array.size_append,mQ,hzs,Rw,CT,Dh,cS,cS];omega
                   have ua:=iL.alloc (n:=n) (ob:=.cells be RG) (o:=.tr RG zO (s0.take len++t)) (w:=w.drew) (uf.good.same rfl) hn gF (by
                    refine⟨be,_,Rb++ys,heap_alloc_new,rfl,by simp[Env.put,jN],⟨.inl rfl,fun _=>rfl⟩,Vp,fun j x H=>?_⟩;rw[<- hC];have M0:j<(Rb++ys).length:=(aO.1 H).1;rw[aJ]at M0;rw[b6 (by rw[Array.size_append,CT,Rw];omega)];by_cases hj:j<len
                    . rw[bB G]at H;rw[b6 G];simp[H]
                    . rw[cM G]at H;rw[Array.getElem?_append_right G,CT,<- bJ,hnv,bE,<- IV,H];rfl)
                   refine⟨_,_,.slice (some ⟨w.heap.size,0,none⟩) (len+k) (grownCap w (len+k) gp RG),.inl (by simp only[Sem.run_bind,gi,Result.andThen_ok,Sem.run_pure]),?_,(uf.trans (iL.drew uf.good)).trans ua,fun m' qe=>Env.gQ qe,.inr rfl⟩;refine⟨w.heap.size,0,0,grownCap w (len+k) gp RG,Env.fM,fun _=>rfl,aK _,n5,?_,rfl⟩;simp[Env.put,jN,hCs]
                . rename_i ob _ S;split at e
                  . rename_i rw0 BK;obtain⟨b',sh',AE,q0⟩:=g.rel m _ S;obtain⟨⟨c,Y7,fz,rD,mg,IW,DJ⟩,Vh⟩:=Gp BK q0;rw[jr]at AE;cases AE;split at e
                    . rename_i old n7;have Z0:old.sc/\o'+len*i.size<=c.size/\dV E old.jJ ((c.toList.drop o').take (len*i.size)):=by
                       have ZV:len*i.size<=gp*i.size:=cA _ G;refine⟨?_,G,?_⟩
                       . split at n7
                         . obtain rfl:=eB n7;trivial
                         . exact Row.Nv n7 Vh
                       split at n7
                       . rename_i CS;obtain⟨_,rfl⟩:=CS;obtain rfl:=eB n7;simp[dV,Row.jJ]
                       . rename_i CS;rcases Nat.eq_zero_or_pos len with hlz|hl
                         . obtain⟨_,NO⟩:=yQ (Row.EB n7);rw[NO,hlz];simp[dV]
                         obtain⟨lj,NO⟩:=yQ (Row.EB n7);rw[NO];have Dg:o'=sh+o:=c1 G;subst Dg;exact nF DJ lj G
                      obtain⟨Z1,v1,v2⟩:=Z0;have hol:old.jJ.length=len*i.size:=by have:=eP v2;simp at this;omega
                      split at e
                      . rename_i IJ;obtain⟨_,hk1⟩:=IJ;obtain rfl:=eB e;subst hk1;refine ee g (v':=.slice (some ⟨b,o',none⟩) len gp) ?_ ⟨b,sh,o',gp,jr,c1,c2,c3,c4,rfl⟩;have RA:ki.toList=[]:=by simp at Ra;simp[Ra]
                        rw[Sem.run_bind,run_append_room hu H LP hi t1 (t3 w rfl) G,RA];rfl
                      . rename_i IJ;cases ho:newObj (h.set m none) n (old.app new).DE with
                        |none=>simp[ho]at e
                        |some p=>
                         obtain⟨h',n'⟩:=p;simp only[ho,aq]at e;subst e;obtain⟨gF,rfl,rfl⟩:=kG ho;by_cases qo:len+k<=gp
                         ·
                          have Gz:o'+(len+k)*i.size<=c.size:=by
                           have:(len+k)*i.size<=gp*i.size:=cA _ qo;omega
                          have asH:(len+k)*i.size=len*i.size+k*i.size:=cW _ _ _;have IP:∀v∈ki.toList,v.oneCell'=true:=by
                           intro v hv;obtain⟨j,hj⟩:=List.getElem?_of_mem hv;have eM:j<new.jJ.length:=by rw[<- eP t4];exact(aO.1 hj).1
                           obtain⟨v',p1,p2⟩:=gD t4 j new.jJ[j] (au eM);rw[hj]at p1;cases p1;exact ue p2 (by rw[bq]at IF;exact IF _ (bK eM))
                          obtain⟨w',e1,e2,e3,e4,e5,e6,e7⟩:=mO (P:=P) (o:=o'+len*i.size) ki.toList 0 w c rD IW IP (by simp;omega);have vp:o'+len*i.size+ki.toList.length<=c.size:=by simp;omega
                          have AR:=iL.move (n:=n) (A:=o') (o:=(old.app new).DE) g u3 gF hn ⟨_,S,Nx BK⟩ jr e3 e4 e5 e6 e7 (by
                           have lj:E.le (E.put n b o' (E.β b)):=Env.uh hn fun _ _ _ _ _=>rfl;refine xq ⟨_,Y7,fz,e2,by rw[jz (by simpa using vp)];simp[Env.put,mg],by rw[jz (by simpa using vp)];exact IW,?_⟩ (Row.II Z1 ZW);refine xp (Row.IG _ _) ?_;refine oZ lj ?_;intro j v q;rw[mN (by simpa using vp)];by_cases hj:j<len*i.size
                           . rw[bB G]at q;rw[aB G];obtain⟨v',p1,p2⟩:=gD v2 j v q;refine⟨v',?_,p2⟩;rw[bN,aE hj,bO]at p1;simpa using p1
                           . rw[cM G,hol]at q;have RF:j-len*i.size<new.jJ.length:=(aO.1 q).1;rw[aE (by simp;omega)];obtain⟨v',p1,p2⟩:=gD t4 _ v q;refine⟨v',?_,p2⟩;rw[<- p1];congr 1;omega)
                          refine⟨_,w',.slice (some ⟨b,o',none⟩) (len+k) gp,.inl ?_,?_,AR,fun m' qe=>Env.gQ qe,.inr rfl⟩
                          . rw[Sem.run_bind,run_append_room hu H LP hi t1 (t3 w rfl) qo];simp only[Addr.iV,e1,Result.andThen_ok,Sem.run_pure]
                          . refine⟨b,o',o',gp,Env.fM,fun _=>rfl,aK _,qo,?_,rfl⟩;simpa[Env.put]using c4
                         ·
                          have hf:∀w1:World,w1.heap=w.heap->(Builtin.firstCells i.size len (.slice (some ⟨b,o',none⟩) len gp)).run P w1= .ok ((c.toList.drop o').take (len*i.size)).toArray w1:=fun w1 IK=>by
                           simp only[Builtin.firstCells];exact run_loadCells (by rw[IK];exact rD) v1
                          have gi:=lz (w:=w) (ty:=ty) hu H LP hi KF t1 hf t3 G q2 r1;have n5:len+k<=grownCap w (len+k) gp el:=by simp only[grownCap,Question.cut];omega
                          have uf:=iL.forget g u3;have CT:((c.toList.drop o').take (len*i.size)).toArray.size=len*i.size:=by simp;omega
                          have LR:(((c.toList.drop o').take (len*i.size)).toArray++ki++Builtin.zeroCells z'.cells (grownCap w (len+k) gp el-(len+k))).size=grownCap w (len+k) gp el*i.size:=by
                           rw[Array.size_append,Array.size_append,mQ,hzs,Ra,CT];rw[<- cW,<- cW];congr 1;omega
                          obtain⟨E',w',v',p1,p2,p3,p4,p5⟩:=sB (P:=P) (r:=old.app new) (s:=(do pure (.value (<- Builtin.append_ #[st,xt] ty #[.slice (some ⟨b,o',none⟩) len gp,x'])):Sem Next))
                           (v:=.eS (some (n,0)) (len+k) (len+k) i.size) (w1:=w.drew) (c:=((c.toList.drop o').take (len*i.size)).toArray++ki++Builtin.zeroCells z'.cells (grownCap w (len+k) gp el-(len+k))) (el:=el)
                           (v':=.slice (some ⟨w.heap.size,0,none⟩) (len+k) (grownCap w (len+k) gp el)) uf.good hn (Row.II Z1 ZW) ho rfl rfl rfl rfl
                           (by simp only[Sem.run_bind,gi,Result.andThen_ok,Sem.run_pure])
                           (by
                            refine xp (Row.IG _ _) ?_;intro j v q;have q':=iF v2 t4;obtain⟨v',p1,p2⟩:=gD q' j v q;refine⟨v',?_,p2⟩;have hj:=(aO.1 p1).1;rw[b6 (by simp at hj ⊢;omega)];rw[<- bJ];simpa using p1)
                           (by
                            refine⟨w.heap.size,0,0,grownCap w (len+k) gp el,Env.fM,fun _=>rfl,aK _,n5,?_,rfl⟩;rw[LR];simp[Env.put])
                          exact⟨E',w',v',p1,p2,uf.trans p3,p4,p5⟩
                    . cases e
                  . cases e
                . cases e
              . cases e
             . cases e
           . cases e
         . cases e
       . cases e
     . cases e
   . cases e
 . cases e
end
theorem jh{kk:Option IntKind}{a b:D}(ha:gm kk a=true)(hb:gm kk b=true):gK a b=true↔a=b:=by
 cases kk with
 |none=>
  cases a<;>simp only[gm,aM]at ha;cases b<;>simp only[gm,aM]at hb;rename_i s t;simp only[gK,kj,cJ,D.str.injEq]
 |some k=>
  cases a<;>simp only[gm,aM,aX]at ha;cases b<;>simp only[gm,aM,aX]at hb;subst ha;subst hb;simp[gK]
theorem GA{φ:Nat->Option (Array Value)}{kd:TypeDesc}{kk:Option IntKind}{a b:D}{a' b':Value}(hd:kP kd kk=true)(ha:gm kk a=true)(hb:gm kk b=true)(ra:kN φ a a')(rb:kN φ b b'):
  Instr.sameNow kd a' b'=some (gK a b):=by
 cases kk with
 |none=>
  cases a<;>simp only[gm,aM]at ha;cases b<;>simp only[gm,aM]at hb;simp only[kN]at ra rb;subst ra;subst rb;cases kd<;>simp only[kP,aM]at hd;simp only[Instr.sameNow,gK];rw[rA]
 |some k=>
  cases a<;>simp only[gm,aM,aX]at ha;cases b<;>simp only[gm,aM,aX]at hb;subst ha;subst hb;simp only[kN]at ra rb;subst ra;subst rb;cases kd<;>simp only[kP,aM]at hd;simp[Instr.sameNow,gK];rfl
theorem rE{φ:Nat->Option (Array Value)}{kd:TypeDesc}{kk:Option IntKind}{k:D}{k':Value}(hd:kP kd kk=true)(Y:gm kk k=true)(rk:kN φ k k'):
  ∀(l:ae) (fG:List MapEntry) (i:Nat),kD φ l fG->(∀e∈l,gm kk e.1=true)->
  match fe k l with
  |none=>Instr.findNow kd k' fG i=some none/\(∀v,nw k v l=l++[(k,v)])/\tM k l=l/\k∉l.map (·.1)
  |some d=>∃j e',i<=j/\fG[j-i]? =some e'/\kN φ d e'.val/\kN φ k e'.key/\Instr.findNow kd k' fG i=some (some (j,e'.val))/\l[j-i]? =some (k,d)/\(∀v,nw k v l=l.set (j-i) (k,v))/\tM k l=l.eraseIdx (j-i)
 | [],fG,i,r,_=>by
   simp only[kD]at r;subst r;simp only[fe];exact⟨rfl,fun _=>rfl,rfl,by simp⟩
 |x::l,_,i,r,hl=>by
  obtain⟨y,ys,r1,r2,rs,rfl⟩:=r;have H:=hl x (by simp);have hs:=GA hd Y H rk r1;simp only[fe];cases hq:gK k x.1 with
  |true=>
   have e:=(jh Y H).1 hq;refine⟨i,y,aK _,by simp,r2,by rw[e];exact r1,?_,?_,fun v=>?_,?_⟩
   . simp only[Instr.findNow,hs,hq]
   . simp[e]
   . simp[nw,hq]
   . simp[tM,hq]
  |false=>
   have ih:=rE hd Y rk l ys (i+1) rs fun e he=>hl e (by simp[he]);simp only;cases W:fe k l with
   |none=>
    rw[W]at ih;obtain⟨i1,i2,i3,i4⟩:=ih;refine⟨?_,fun v=>?_,?_,?_⟩
    . simp only[Instr.findNow,hs,hq,i1]
    . simp[nw,hq,i2]
    . simp[tM,hq,i3]
    . intro h;simp only[cC,aD]at h;rcases h with q|q
      . rw[(jh Y H).2 q]at hq;cases hq
      . exact i4 q
   |some d=>
    rw[W]at ih;obtain⟨j,e',j1,j2,j3,j4,j5,j6,j7,j8⟩:=ih;have hj:j-i=(j-(i+1))+1:=by omega
    refine⟨j,e',G,by rw[hj];simpa using j2,j3,j4,?_,by rw[hj];simpa using j6,fun v=>?_,?_⟩
    . simp only[Instr.findNow,hs,hq,j5]
    . rw[hj];simp[nw,hq,j7]
    . rw[hj];simp[tM,hq,j8]
theorem yT{kk:Option IntKind}{k d:D}(Y:gm kk k=true):∀{l:ae},(∀e∈l,gm kk e.1=true)->(l.map (·.1)).Nodup->(fe k l=some d↔(k,d)∈l)
 | [],_,_=>by simp[fe]
 |x::l,hl,hn=>by
  have H:=hl x (by simp);simp only[cC,List.nodup_cons]at hn;simp only[fe];cases hq:gK k x.1 with
  |true=>
   have e:=(jh Y H).1 hq;simp only[aq,aD];constructor
   . intro h;left;rw[e,<- h]
   . rintro(h|h)
     . rw[<- h]
     . exact absurd (bQ.2 ⟨(k,d),h,e⟩) hn.1
  |false=>
   have e:k≠x.1:=fun h=>by rw[(jh Y H).2 h]at hq;cases hq
   simp only[aD];rw[yT Y (fun e he=>hl e (by simp[he])) hn.2];constructor
   . exact .inr
   . rintro(h|h)
     . exact absurd (by rw[<- h]) e
     . exact h
section
variable{kk:Option IntKind}{k:D}
theorem IX(Y:gm kk k=true){l X:ae}(h:List.Perm l X)(hl:∀e∈X,gm kk e.1=true)(hn:(X.map (·.1)).Nodup):fe k l=fe k X:=by
 have Z2:∀e∈l,gm kk e.1=true:=fun e he=>hl e (h.mem_iff.1 he);have nV:(l.map (·.1)).Nodup:=(h.map _).nodup_iff.2 hn;apply Option.ext;intro d;rw[yT Y Z2 nV,yT Y hl hn,h.mem_iff]
theorem LU{v:D}(Y:gm kk k=true){l X:ae}(h:List.Perm l X):(∀e∈X,gm kk e.1=true)->(X.map (·.1)).Nodup->List.Perm (nw k v l) (nw k v X):=by
 induction h with
 |nil=>intro _ _;exact .refl _
 |cons x p ih=>
  intro hl hn;simp only[nw];cases gK k x.1 with
  |true=>exact .cons _ p
  |false=>exact .cons _ (ih (fun e he=>hl e (by simp[he])) (by simp at hn;exact hn.2))
 |swap x y l=>
  intro hl hn;simp only[nw];have H:=hl x (by simp);have hy:=hl y (by simp);cases hqx:gK k x.1 with
  |true=>
   have ex:=(jh Y H).1 hqx;cases Z3:gK k y.1 with
   |true=>
    have ey:=(jh Y hy).1 Z3;simp[<- ex,<- ey]at hn
   |false=>exact .swap _ _ _
  |false=>
   cases Z3:gK k y.1 with
   |true=>exact .swap _ _ _
   |false=>exact .swap _ _ _
 |trans p q NP NQ=>
  intro hl hn;exact(NP (fun e he=>hl e (q.mem_iff.1 he)) ((q.map _).nodup_iff.2 hn)).trans (NQ hl hn)
theorem LV(Y:gm kk k=true){l X:ae}(h:List.Perm l X):(∀e∈X,gm kk e.1=true)->(X.map (·.1)).Nodup->List.Perm (tM k l) (tM k X):=by
 induction h with
 |nil=>intro _ _;exact .refl _
 |cons x p ih=>
  intro hl hn;simp only[tM];cases gK k x.1 with
  |true=>exact p
  |false=>exact .cons _ (ih (fun e he=>hl e (by simp[he])) (by simp at hn;exact hn.2))
 |swap x y l=>
  intro hl hn;simp only[tM];have H:=hl x (by simp);have hy:=hl y (by simp);cases hqx:gK k x.1 with
  |true=>
   have ex:=(jh Y H).1 hqx;cases Z3:gK k y.1 with
   |true=>
    have ey:=(jh Y hy).1 Z3;simp[<- ex,<- ey]at hn
   |false=>exact .refl _
  |false=>
   cases Z3:gK k y.1 with
   |true=>exact .refl _
   |false=>exact .swap _ _ _
 |trans p q NP NQ=>
  intro hl hn;exact(NP (fun e he=>hl e (q.mem_iff.1 he)) ((q.map _).nodup_iff.2 hn)).trans (NQ hl hn)
end
theorem DN{φ:Nat->Option (Array Value)}{f:MapEntry->MapEntry}{x:D×D}(hf:∀y,kN φ x.1 (f y).key/\kN φ x.2 (f y).val):∀(l:ae) (X:List MapEntry) (i:Nat),kD φ l X->kD φ (l.set i x) (X.modify i f)
 | [],_,i,r=>by simp only[kD]at r;subst r;simp[kD]
 |a::l,_,i,r=>by
  obtain⟨y,ys,r1,r2,rs,rfl⟩:=r;cases i with
  |zero=>exact⟨f y,ys,(hf y).1,(hf y).2,rs,by simp⟩
  |succ i=>exact⟨y,_,r1,r2,DN hf l ys i rs,by simp⟩
theorem vZ{φ:Nat->Option (Array Value)}:∀(l:ae) (X:List MapEntry) (x:D×D) (y:MapEntry),kD φ l X->kN φ x.1 y.key->kN φ x.2 y.val->kD φ (l++[x]) (X++[y])
 | [],_,x,y,r,a,b=>by simp only[kD]at r;subst r;exact⟨y,[],a,b,rfl,rfl⟩
 |z::l,_,x,y,r,a,b=>by
  obtain⟨y0,ys,r1,r2,rs,rfl⟩:=r;exact⟨y0,_,r1,r2,vZ l ys x y rs a b,rfl⟩
theorem zX{φ:Nat->Option (Array Value)}:∀(l:ae) (X:List MapEntry) (i:Nat),kD φ l X->kD φ (l.eraseIdx i) (X.eraseIdx i)
 | [],_,i,r=>by simp only[kD]at r;subst r;simp[kD]
 |a::l,_,i,r=>by
  obtain⟨y,ys,r1,r2,rs,rfl⟩:=r;cases i with
  |zero=>exact rs
  |succ i=>exact⟨y,_,r1,r2,zX l ys i rs,rfl⟩
theorem xD{φ:Nat->Option (Array Value)}:∀{l:ae} {X:List MapEntry},kD φ l X->X.length=l.length
 | [],_,r=>by simp only[kD]at r;subst r;rfl
 |_::_,_,r=>by obtain⟨y,ys,_,_,rs,rfl⟩:=r;simp[xD rs]
open Classical in
theorem yU{kk:Option IntKind}{k v:D}(Y:gm kk k=true):∀(l:ae),(∀e∈l,gm kk e.1=true)->(nw k v l).map (·.1)=if k∈l.map (·.1)then l.map (·.1)else l.map (·.1)++[k]
 | [],_=>by simp[nw]
 |x::l,hl=>by
  have H:=hl x (by simp);simp only[nw];cases hq:gK k x.1 with
  |true=>
   have e:=(jh Y H).1 hq;simp[e]
  |false=>
   have e:k≠x.1:=fun h=>by rw[(jh Y H).2 h]at hq;cases hq
   simp only[cC,yU Y l fun e he=>hl e (by simp[he]),aD,e,false_or];split<;>simp
theorem GB{k:D}:∀(l:ae),List.Sublist (tM k l) l
 | []=>.slnil
 |x::l=>by
  simp only[tM];cases gK k x.1 with
  |true=>exact List.sublist_cons_self _ _
  |false=>exact .cons_cons _ (GB l)
open Classical in
section
variable{φ:Nat->Option (Array Value)}{kd:TypeDesc}{kk:Option IntKind}{X:ae}{fG:Array MapEntry}{eO:Nat}{k:D}{k':Value}
theorem jM.tA{v:D}{k' v':Value}(r:jM φ kk X fG.toList eO)(hd:kP kd kk=true)(Y:gm kk k=true)(rk:kN φ k k')(rv:kN φ v v'):
  (Instr.findNow kd k' fG.toList 0=some none/\jM φ kk (nw k v X) (fG.push { key:=k',val:=v',born:=eO }).toList (eO+1)) \/
  ∃(j:Nat) (e':MapEntry),Instr.findNow kd k' fG.toList 0=some (some (j,e'.val))/\fG[j]? =some e'/\kN φ k e'.key/\jM φ kk (nw k v X) (fG.modify j fun e=>{ e with key:=k',val:=v' }).toList eO:=by
 obtain⟨l,hp,hr⟩:=r.row;have hl:∀e∈l,gm kk e.1=true:=fun e he=>r.kind e (hp.mem_iff.1 he);have Ue:=LU (v:=v) Y hp r.kind r.keys;have GC:((nw k v X).map (·.1)).Nodup:=by
  rw[yU Y X r.kind];split
  . exact r.keys
  . rename_i h;exact List.nodup_append.2 ⟨r.keys,by simp,fun a ha b hb=>by simp at hb;subst hb;intro q;subst q;exact h ha⟩
 have GD:∀e∈nw k v X,gm kk e.1=true:=by
  intro e he;have:e.1∈(nw k v X).map (·.1):=bQ.2 ⟨e,he,rfl⟩;rw[yU Y X r.kind]at this;have base:e.1∈X.map (·.1)->gm kk e.1=true:=fun h=>by obtain⟨x,H,q⟩:=bQ.1 h;rw[<- q];exact r.kind x H
  split at this
  . exact base this
  . rcases bf.1 this with h|h
    . exact base h
    . simp at h;rw[h];exact Y
 have hf:=rE hd Y rk l fG.toList 0 hr hl;cases W:fe k l with
 |none=>
  rw[W]at hf;obtain⟨Q,R,_,_⟩:=hf;refine .inl ⟨Q,⟨⟨_,Ue,?_⟩,GC,GD,?_,?_⟩⟩
  . rw[R,Array.toList_push];exact vZ l fG.toList (k,v) _ hr rk rv
  . intro e he;rw[Array.toList_push]at he;rcases bf.1 he with q|q
    . have:=r.old e q;omega
    . simp at q;subst q;simp
  . rw[Array.toList_push,bR];refine List.nodup_append.2 ⟨r.born,by simp,fun a ha b hb=>?_⟩;simp at hb;subst hb;obtain⟨e,he,q⟩:=bQ.1 ha;have:=r.old e he;omega
 |some d=>
  rw[W]at hf;obtain⟨j,e',_,R,h3,h4,h5,h6,h7,_⟩:=hf;simp only[Nat.sub_zero]at R h6 h7;have KG:(fG.modify j fun e=>{ e with key:=k',val:=v' }).toList.map (·.born)=fG.toList.map (·.born):=by
   rw[Array.toList_modify];apply List.ext_getElem?;intro i;simp only[bE,List.getElem?_modify];by_cases NR:j=i
   . simp[NR];cases fG.toList[i]? <;>rfl
   . simp[NR]
  refine .inr ⟨j,e',h5,by rw[<- bJ];exact R,h4,⟨⟨_,Ue,?_⟩,GC,GD,?_,?_⟩⟩
  . rw[h7,Array.toList_modify];exact DN (f:=fun e=>{ e with key:=k',val:=v' }) (fun y=>⟨rk,rv⟩) l fG.toList j hr
  . intro e he;have:e.born∈(fG.modify j fun e=>{ e with key:=k',val:=v' }).toList.map (·.born):=bQ.2 ⟨e,he,rfl⟩;rw[KG]at this;obtain⟨e0,he0,q⟩:=bQ.1 this;rw[<- q];exact r.old e0 he0
  . rw[KG];exact r.born
theorem jM.del(r:jM φ kk X fG.toList eO)(hd:kP kd kk=true)(Y:gm kk k=true)(rk:kN φ k k'):
  (Instr.findNow kd k' fG.toList 0=some none/\jM φ kk (tM k X) fG.toList eO) \/
  ∃(j:Nat) (e':MapEntry),Instr.findNow kd k' fG.toList 0=some (some (j,e'.val))/\jM φ kk (tM k X) (fG.eraseIdxIfInBounds j).toList eO:=by
 obtain⟨l,hp,hr⟩:=r.row;have hl:∀e∈l,gm kk e.1=true:=fun e he=>r.kind e (hp.mem_iff.1 he);have Ue:=LV Y hp r.kind r.keys;have qf:List.Sublist (tM k X) X:=GB X;have GC:((tM k X).map (·.1)).Nodup:=r.keys.sublist (qf.map _);have GD:∀e∈tM k X,gm kk e.1=true:=fun e he=>r.kind e (qf.mem he);have hf:=rE hd Y rk l fG.toList 0 hr hl;cases W:fe k l with
 |none=>
  rw[W]at hf;obtain⟨Q,_,h3,_⟩:=hf;exact .inl ⟨Q,⟨⟨l,by rw[h3]at Ue;exact Ue,hr⟩,GC,GD,r.old,r.born⟩⟩
 |some d=>
  rw[W]at hf;obtain⟨j,e',_,R,_,_,h5,_,_,h8⟩:=hf;simp only[Nat.sub_zero]at R h8;have ht:(fG.eraseIdxIfInBounds j).toList=fG.toList.eraseIdx j:=Array.toList_eraseIdxIfInBounds;refine .inr ⟨j,e',h5,⟨⟨_,Ue,?_⟩,GC,GD,?_,?_⟩⟩
  . rw[h8,ht];exact zX l fG.toList j hr
  . intro e he;rw[ht]at he;exact r.old e ((List.eraseIdx_sublist _ _).mem he)
  . rw[ht];exact r.born.sublist ((List.eraseIdx_sublist _ _).map _)
theorem jM.look(r:jM φ kk X fG.toList eO)(hd:kP kd kk=true)(Y:gm kk k=true)(rk:kN φ k k'):
  match fe k X with
  |none=>Instr.findNow kd k' fG.toList 0=some none
  |some d=>∃j v',Instr.findNow kd k' fG.toList 0=some (some (j,v'))/\kN φ d v':=by
 obtain⟨l,hp,hr⟩:=r.row;have hl:∀e∈l,gm kk e.1=true:=fun e he=>r.kind e (hp.mem_iff.1 he);have hf:=rE hd Y rk l fG.toList 0 hr hl;rw[<- IX Y hp r.kind r.keys];cases W:fe k l with
 |none=>rw[W]at hf;exact hf.1
 |some d=>
  rw[W]at hf;obtain⟨j,e',_,_,h3,_,h5,_⟩:=hf;exact⟨j,e'.val,h5,h3⟩
end
theorem jM.length{φ:Nat->Option (Array Value)}{kk:Option IntKind}{X:ae}{fG:List MapEntry}{eO:Nat}(r:jM φ kk X fG eO):fG.length=X.length:=by
 obtain⟨l,hp,hr⟩:=r.row;rw[xD hr,hp.length_eq]
theorem o5{E:Env}{x:V}{d:D}{x':Value}(e:keyOf x=some d)(r:dQ E x x'):kN E.φ d x':=by
 unfold keyOf at e;split at e<;>first|(cases e;exact r)|cases e
theorem xE{x:V}{d:D}{kd:TypeDesc}{kk:Option IntKind}(e:keyOf x=some d)(hd:kP kd kk=true)(Y:gm kk d=true):Bs kd x=true:=by
 unfold keyOf at e;split at e
 . cases e;cases kk<;>simp only[gm,aM]at Y;cases kd<;>simp only[kP,aM]at hd;rfl
 . cases e;cases kk<;>simp only[gm,aM]at Y;cases kd<;>simp only[kP,aM]at hd;rfl
 . cases e
section
variable{P:Program}{E:Env}{h:I O}{n:Nat}{w:World}
theorem fA{b:Nat}{o:Obj}(hb:w.heap[b]? =some o)(hn:∀c el fz,o≠ .cells c el fz):(getObj b).run P w= .ok o w:=by
 simp only[getObj,Sem.run,hb]
theorem jX{b:Nat}{o o':Obj}(hb:w.heap[b]? =some o)(hn:∀c el fz,o≠ .cells c el fz):(setObj b o').run P w= .ok () { w with heap:=w.heap.setIfInBounds b o' }:=by
 simp only[setObj,Sem.run,hb]
theorem xF:∀{xs:List (V×V×Nat)} {ys:List MapEntry},kC E xs ys->ys.length=xs.length
 | [],_,r=>by simp only[kC]at r;subst r;rfl
 |_::_,_,r=>by obtain⟨y,ys,_,_,_,rs,rfl⟩:=r;simp[xF rs]
theorem xG{m:Nat}{X:List (V×V×Nat)}{eO:Nat}(g:Good E h w)(S:h.get m=some (.map X eO)):
  ∃b fG,E.ι m=some (b,0)/\w.heap[b]? =some (.map fG eO)/\kC E X fG.toList:=by
 obtain⟨b,s,hi,hs,fG,Q,R⟩:=g.rel m _ S;subst hs;exact⟨b,fG,hi,Q,R⟩
theorem xH{m:Nat}{kk:Option IntKind}{X:ae}(g:Good E h w)(S:h.get m=some (.gh kk X)):
  ∃b fG eO,E.ι m=some (b,0)/\w.heap[b]? =some (.map fG eO)/\jM E.φ kk X fG.toList eO:=by
 obtain⟨b,s,hi,hs,fG,eO,Q,R⟩:=g.rel m _ S;subst hs;exact⟨b,fG,eO,hi,Q,R⟩
theorem Vq{eu:Array TypeId}{ty:TypeId}{args:ag}{dF:List Value}{v:V}(g:Good E h w)(ra:dV E args dF)(e:LI P eu args h=some v):
  jI P E h n w (do pure (.value (<- Builtin.len_ eu ty dF.toArray))) (.val v h n):=by
 unfold LI at e;split at e
 . rename_i t x Q;obtain⟨x',_,rx,mP,rfl⟩:=ra;simp only[dV]at mP;subst mP;split at e
   . rename_i s hu;obtain rfl:=eB e;simp only[dQ]at rx;subst rx;refine ee g (v':=.int .i64 s.length) ?_ rfl;have mg:(⟨s.toArray⟩:ByteArray).size=s.length:=by show s.toArray.size=_;simp
     simp[Builtin.len_,Q,dL hu,goInt,mg]
   . rename_i _ k _ hu;obtain rfl:=eB e;refine ee g (v':=.int .i64 k) ?_ rfl;simp[Builtin.len_,Q,dL hu,goInt]
   . rename_i a len jH jm hu;obtain rfl:=eB e;refine ee g (v':=.int .i64 len) ?_ rfl;cases a with
     |none=>obtain⟨rfl,rfl,rfl⟩:=rx;simp[Builtin.len_,Q,dL hu,goInt]
     |some a=>obtain⟨_,_,_,_,_,_,_,_,_,rfl⟩:=rx;simp[Builtin.len_,Q,dL hu,goInt]
   . rename_i f len T hu;obtain rfl:=eB e;refine ee g (v':=.int .i64 len) ?_ rfl;obtain⟨⟨_,_,_,rfl,_⟩,_⟩:=rx;simp[Builtin.len_,Q,dL hu,goInt]
   . rename_i hu;obtain rfl:=eB e;simp only[dQ]at rx;subst rx;refine ee g (v':=.int .i64 0) ?_ rfl;simp[Builtin.len_,Q,dL hu,goInt]
   . rename_i m hu;split at e
     . rename_i X eO S;obtain rfl:=eB e;obtain⟨b,fG,hi,hb,AS⟩:=xG g S;obtain⟨b',jr,rfl⟩:=rx;rw[hi]at jr;cases jr;refine ee g (v':=.int .i64 X.length) ?_ rfl;have hl:=xF AS;simp only[Array.length_toList]at hl;simp[Builtin.len_,Q,dL hu,goInt,fA (P:=P) hb (by intro _ _ _ q;cases q),hl]
     . rename_i kk X S;obtain rfl:=eB e;obtain⟨b,fG,eO,hi,hb,AS⟩:=xH g S;obtain⟨b',jr,rfl⟩:=rx;rw[hi]at jr;cases jr;refine ee g (v':=.int .i64 X.length) ?_ rfl;have hl:=AS.length;simp only[Array.length_toList]at hl;simp[Builtin.len_,Q,dL hu,goInt,fA (P:=P) hb (by intro _ _ _ q;cases q),hl]
     . cases e
   . cases e
 . cases e
theorem GF:∀(xs:ag) (x v:V) (x':Value) (yB:List Value),dQ E x x'->dV E xs yB->Gh x xs=some v->
  ∃v',(yB.foldlM Builtin.max2 x').run P w= .ok v' w/\dQ E v v'
 | [],x,v,x',yB,rx,rs,e=>by
   simp only[dV]at rs;subst rs;have:v=x:=by cases x<;>simp[Gh]at e<;>exact e.symm
   subst this;exact⟨x',rfl,rx⟩
 |y::ys,x,v,x',_,rx,rs,e=>by
  obtain⟨y',DH,ry,Vl,rfl⟩:=rs;cases x with
  |int k a=>cases y with
   |int j b=>
    simp only[Gh]at e;simp only[dQ]at rx ry;subst rx;subst ry;obtain⟨v',Q,R⟩:=GF ys (.int k (if b>a then b else a)) v (.int k (if b>a then b else a)) DH rfl Vl e;refine⟨v',?_,R⟩;simp only[List.foldlM_cons,Sem.run_bind,Builtin.max2,Sem.run_pure,Result.andThen_ok];exact Q
   |_=>simp[Gh]at e
  |_=>simp[Gh]at e
theorem GG:∀(xs:ag) (x v:V) (x':Value) (yB:List Value),dQ E x x'->dV E xs yB->Gi x xs=some v->
  ∃v',(yB.foldlM Builtin.min2 x').run P w= .ok v' w/\dQ E v v'
 | [],x,v,x',yB,rx,rs,e=>by
   simp only[dV]at rs;subst rs;have:v=x:=by cases x<;>simp[Gi]at e<;>exact e.symm
   subst this;exact⟨x',rfl,rx⟩
 |y::ys,x,v,x',_,rx,rs,e=>by
  obtain⟨y',DH,ry,Vl,rfl⟩:=rs;cases x with
  |int k a=>cases y with
   |int j b=>
    simp only[Gi]at e;simp only[dQ]at rx ry;subst rx;subst ry;obtain⟨v',Q,R⟩:=GG ys (.int k (if b<a then b else a)) v (.int k (if b<a then b else a)) DH rfl Vl e;refine⟨v',?_,R⟩;simp only[List.foldlM_cons,Sem.run_bind,Builtin.min2,Sem.run_pure,Result.andThen_ok];exact Q
   |_=>simp[Gi]at e
  |_=>simp[Gi]at e
section
variable{eu:Array TypeId}{ty:TypeId}
theorem Vr{x v:V}{xs:ag}{dF:List Value}(g:Good E h w)(ra:dV E (x::xs) dF)(e:Gh x xs=some v):
  jI P E h n w (do pure (.value (<- Builtin.max_ eu ty dF.toArray))) (.val v h n):=by
 obtain⟨x',yB,rx,Vk,rfl⟩:=ra;obtain⟨v',Q,R⟩:=GF (P:=P) (w:=w) xs x v x' yB rx Vk e;refine ee g (v':=v') ?_ R;simp only[Builtin.max_,Sem.run_bind,Q,Result.andThen_ok,Sem.run_pure]
theorem Vs{x v:V}{xs:ag}{dF:List Value}(g:Good E h w)(ra:dV E (x::xs) dF)(e:Gi x xs=some v):
  jI P E h n w (do pure (.value (<- Builtin.min_ eu ty dF.toArray))) (.val v h n):=by
 obtain⟨x',yB,rx,Vk,rfl⟩:=ra;obtain⟨v',Q,R⟩:=GG (P:=P) (w:=w) xs x v x' yB rx Vk e;refine ee g (v':=v') ?_ R;simp only[Builtin.min_,Sem.run_bind,Q,Result.andThen_ok,Sem.run_pure]
end
theorem LW{kd:TypeDesc}{a b:V}{a' b':Value}{r:Bool}(ra:dQ E a a')(rb:dQ E b b')(e:xj kd a b=some r):Instr.sameNow kd a' b'=some r:=by
 unfold xj at e;split at e
 . simp only[dQ]at ra rb;subst ra;subst rb;split at e
   . rename_i Y;obtain rfl:=eB e;simp[Instr.sameNow,Y]
   . cases e
 . simp only[dQ]at ra rb;subst ra;subst rb;obtain rfl:=eB e;simp only[Instr.sameNow];rw[rA]
 . cases e
theorem u6{kd:TypeDesc}{k:V}{k':Value}(rk:dQ E k k'):∀(X:List (V×V×Nat)) (fG:List MapEntry) (i:Nat) (r:Option (Nat×V×V×Nat)),kC E X fG->tW kd k X i=some r->
  match r with
  |none=>Instr.findNow kd k' fG i=some none
  |some (j,e)=>∃e',i<=j/\X[j-i]? =some e/\fG[j-i]? =some e'/\xj kd k e.1=some true/\dQ E e.1 e'.key/\dQ E e.2.1 e'.val/\e'.born=e.2.2/\Instr.findNow kd k' fG i=some (some (j,e'.val))
 | [],fG,i,r,rs,e=>by
   simp only[kC]at rs;subst rs;simp only[tW,aq]at e;subst e;simp[Instr.findNow]
 |x::xs,_,i,r,rs,e=>by
  obtain⟨y,ys,r1,r2,r3,rs,rfl⟩:=rs;simp only[tW]at e;cases Y:xj kd k x.1 with
  |none=>simp[Y]at e
  |some b=>
   have hs:=LW rk r1 Y;cases b with
   |true=>
    simp only[Y,aq]at e;subst e;exact⟨y,aK _,by simp,by simp,Y,r1,r2,r3,by simp[Instr.findNow,hs]⟩
   |false=>
    simp only[Y]at e;have ih:=u6 rk xs ys (i+1) r rs e;cases r with
    |none=>simp only at ih ⊢;simp[Instr.findNow,hs,ih]
    |some q=>
     obtain⟨j,e0⟩:=q;obtain⟨e',a1,a2,a3,a4,a5,a6,a7,a8⟩:=ih;have hj:j-i=(j-(i+1))+1:=by omega
     exact⟨e',G,by rw[hj];simpa using a2,by rw[hj];simpa using a3,a4,a5,a6,a7,by simp[Instr.findNow,hs,a8]⟩
section
variable{kt:TypeId}{kd:TypeDesc}{k:V}{k':Value}{b:Bool}
theorem gL{fG:List MapEntry}{r:Option (Nat×Value)}(hu:P.underlying kt=some kd)(e:Instr.findNow kd k' fG 0=some r):
  (Instr.findKey kt k' fG).run P w= .ok r w:=by
 simp[Instr.findKey,dL hu,e]
theorem Di(d:Nat)(hu:P.underlying kt=some kd)(rk:dQ E k k')(e:Bs kd k=true):(Instr.checkKey b (d+1) kt k').run P w= .ok () w:=by
 unfold Bs at e;split at e
 . simp only[dQ]at rk;subst rk;simp only[Instr.checkKey,Sem.run_bind,dL hu,Result.andThen_ok];rfl
 . simp only[dQ]at rk;subst rk;simp only[Instr.checkKey,Sem.run_bind,dL hu,Result.andThen_ok];rfl
 . cases e
theorem iG(hu:P.underlying kt=some kd)(rk:dQ E k k')(e:Bs kd k=true):(Instr.checkKey b 10000 kt k').run P w= .ok () w:=
 Di 9999 hu rk e
end
theorem LX{t:TypeId}{x k v:V}{ok:Bool}{x' k':Value}(g:Good E h w)(rx:dQ E x x')(rk:dQ E k k')(e:uU P t h x k ok=some v):
  jI P E h n w (do pure (.value (<- Instr.lookup t x' k' ok))) (.val v h n):=by
 unfold uU at e;split at e
 . rename_i kt et hu;split at e
   . rename_i kd z Y hz;split at e
     . rename_i r kk X S;split at e
       . rename_i kq EL;split at e
         . rename_i hb;simp only[ay]at hb;simp only[aq]at e;obtain⟨z',KF,Gw,_⟩:=kT (w:=w) E hz;obtain⟨b,fG,eO,hi,rD,hr⟩:=xH g S;obtain⟨b',jr,rfl⟩:=rx;rw[hi]at jr;cases jr;have xJ:=fA (P:=P) rD (by intro _ _ _ q;cases q);have Ir:=xE EL hb.1 hb.2;have Is:=iG (P:=P) (w:=w) (b:=fG.isEmpty) Y rk Ir;have Zc:=hr.look hb.1 hb.2 (o5 EL rk);cases W:fe kq X with
           |none=>
            rw[W]at Zc e;have gi:(Instr.lookup t (.map (some b)) k' ok).run P w= .ok (if ok then .tuple #[z',.bool false]else z') w:=by
             simp only[Instr.lookup,Sem.run_bind,dL hu,Result.andThen_ok,Sem.run_pure,xJ,Is,gL Y Zc,KF]
            subst e;refine ee g (v':=if ok then .tuple #[z',.bool false]else z') (by rw[Sem.run_bind,gi];rfl) ?_;cases ok with
            |true=>exact⟨[z',.bool false],⟨z',_,Gw,⟨.bool false,[],rfl,rfl,rfl⟩,rfl⟩,rfl⟩
            |false=>exact Gw
           |some d=>
            rw[W]at Zc e;obtain⟨j,v',q1,q2⟩:=Zc;have gi:(Instr.lookup t (.map (some b)) k' ok).run P w= .ok (if ok then .tuple #[v',.bool true]else v') w:=by
             simp only[Instr.lookup,Sem.run_bind,dL hu,Result.andThen_ok,Sem.run_pure,xJ,Is,gL Y q1]
            subst e;refine ee g (v':=if ok then .tuple #[v',.bool true]else v') (by rw[Sem.run_bind,gi];rfl) ?_;cases ok with
            |true=>exact⟨[v',.bool true],⟨v',_,q8 d v' q2,⟨.bool true,[],rfl,rfl,rfl⟩,rfl⟩,rfl⟩
            |false=>exact q8 d v' q2
         . cases e
       . cases e
     rename_i x _ _ hnd;split at e
     . rename_i Ir;obtain⟨z',KF,Gw,_⟩:=kT (w:=w) E hz;have vt:∀(X:List (V×V×Nat)) (fG:Array MapEntry),kC E X fG.toList->(match tW kd k X 0 with
         |some (some (_,_,v,_))=>some (if ok then V.gC [v,.bool true]else v)
         |some none=>some (if ok then V.gC [z,.bool false]else z)
         |none=>none)=some v->
         ((Instr.findKey kt k' fG.toList).run P w= .ok none w/\dQ E v (if ok then .tuple #[z',.bool false]else z')) \/
         ∃j v',(Instr.findKey kt k' fG.toList).run P w= .ok (some (j,v')) w/\dQ E v (if ok then .tuple #[v',.bool true]else v'):=by
        intro X fG AS e;cases hf:tW kd k X 0 with
        |none=>simp[hf]at e
        |some r=>
         have hr:=u6 rk X fG.toList 0 r AS hf;cases r with
         |none=>
          simp only[hf,aq]at e;subst e;refine .inl ⟨gL Y hr,?_⟩;cases ok with
          |true=>exact⟨[z',.bool false],⟨z',_,Gw,⟨.bool false,[],rfl,rfl,rfl⟩,rfl⟩,rfl⟩
          |false=>exact Gw
         |some q=>
          obtain⟨j,k0,v0,N⟩:=q;simp only[hf,aq]at e;subst e;obtain⟨e',_,_,_,_,_,a6,_,a8⟩:=hr;refine .inr ⟨j,e'.val,gL Y a8,?_⟩;cases ok with
          |true=>exact⟨[e'.val,.bool true],⟨e'.val,_,a6,⟨.bool true,[],rfl,rfl,rfl⟩,rfl⟩,rfl⟩
          |false=>exact a6
       cases x with
       |map m=>
        cases m with
        |none=>
         simp only at e;simp only[dQ]at rx;subst rx;rcases vt [] #[] (by simp[kC]) e with⟨m1,m3⟩|⟨j,v',m1,m3⟩
         . refine ee g ?_ m3;simp only[Instr.lookup,Sem.run_bind,dL hu,Result.andThen_ok,Sem.run_pure,iG (b:=(#[]:Array MapEntry).isEmpty) Y rk Ir,m1,KF]
         . refine ee g ?_ m3;simp only[Instr.lookup,Sem.run_bind,dL hu,Result.andThen_ok,Sem.run_pure,iG (b:=(#[]:Array MapEntry).isEmpty) Y rk Ir,m1]
        |some m=>
         simp only at e;cases S:h.get m with
         |none=>simp[S]at e
         |some o=>
          cases o with
          |map X eO=>
           simp only[S]at e;obtain⟨b,fG,hi,hb,AS⟩:=xG g S;obtain⟨b',jr,rfl⟩:=rx;rw[hi]at jr;cases jr;have xJ:=fA (P:=P) hb (by intro _ _ _ q;cases q);rcases vt X fG AS e with⟨m1,m3⟩|⟨j,v',m1,m3⟩
           . refine ee g ?_ m3;simp only[Instr.lookup,Sem.run_bind,dL hu,Result.andThen_ok,Sem.run_pure,xJ,iG (b:=fG.isEmpty) Y rk Ir,m1,KF]
           . refine ee g ?_ m3;simp only[Instr.lookup,Sem.run_bind,dL hu,Result.andThen_ok,Sem.run_pure,xJ,iG (b:=fG.isEmpty) Y rk Ir,m1]
          |_=>simp[S]at e
       |_=>simp at e
     . cases e
   . cases e
 . cases e
theorem oS{f:V×V×Nat->V×V×Nat}{f':MapEntry->MapEntry}(hf:∀x y,dQ E x.1 y.key->dQ E x.2.1 y.val->y.born=x.2.2->dQ E (f x).1 (f' y).key/\dQ E (f x).2.1 (f' y).val/\(f' y).born=(f x).2.2):
  ∀(xs:List (V×V×Nat)) (ys:List MapEntry) (i:Nat),kC E xs ys->kC E (iy xs i f) (ys.modify i f')
 | [],_,i,r=>by simp only[kC]at r;subst r;simp[iy,kC]
 |x::xs,_,i,r=>by
  obtain⟨y,ys,a,b,c,rs,rfl⟩:=r;cases i with
  |zero=>obtain⟨p,q,s⟩:=hf x y a b c;exact⟨f' y,ys,p,q,s,rs,by simp⟩
  |succ i=>exact⟨y,_,a,b,c,oS hf xs ys i rs,by simp⟩
theorem v7:∀(xs:List (V×V×Nat)) (ys:List MapEntry) (x:V×V×Nat) (y:MapEntry),kC E xs ys->dQ E x.1 y.key->dQ E x.2.1 y.val->y.born=x.2.2->kC E (xs++[x]) (ys++[y])
 | [],_,x,y,r,a,b,c=>by simp only[kC]at r;subst r;exact⟨y,[],a,b,c,rfl,rfl⟩
 |z::zs,_,x,y,r,a,b,c=>by
  obtain⟨y0,ys,a0,b0,c0,rs,rfl⟩:=r;exact⟨y0,_,a0,b0,c0,v7 zs ys x y rs a b c,rfl⟩
theorem xK{m b eO clock':Nat}{X yC:List (V×V×Nat)}{fG tN:Array MapEntry}(g:Good E h w)(gF:m<fV)(S:h.get m=some (.map X eO))(hi:E.ι m=some (b,0))(hb:w.heap[b]? =some (.map fG eO))
  (AS:kC E yC tN.toList):iL E h w E (h.set m (some (.map yC clock'))) { w with heap:=w.heap.setIfInBounds b (.map tN clock') }:=by
 have eM:b<w.heap.size:=(aT.1 hb).1;refine iL.write g gF ⟨_,S,rfl⟩ hi (by simp) rfl rfl rfl (fun x H=>?_) ⟨rfl,tN,?_,AS⟩
 . simp[Ne.symm H]
 . simp[eM]
section
variable{m b eO clock':Nat}
theorem xL{kk:Option IntKind}{X yC:ae}{fG tN:Array MapEntry}(g:Good E h w)(gF:m<fV)(S:h.get m=some (.gh kk X))(hi:E.ι m=some (b,0))(hb:w.heap[b]? =some (.map fG eO))
  (AS:jM E.φ kk yC tN.toList clock'):iL E h w E (h.set m (some (.gh kk yC))) { w with heap:=w.heap.setIfInBounds b (.map tN clock') }:=by
 have eM:b<w.heap.size:=(aT.1 hb).1;refine iL.write g gF ⟨_,S,rfl⟩ hi (by simp) rfl rfl rfl (fun x H=>?_) ⟨rfl,tN,clock',?_,AS⟩
 . simp[Ne.symm H]
 . simp[eM]
theorem BM{kd:TypeDesc}{a b:V}{a' b':Value}(ra:dQ E a a')(rb:dQ E b b')(e:xj kd a b=some true):(Instr.keyThatStays b' a').run P w= .ok a' w:=by
 have:Instr.sameBits 10000 b' a'=true:=by
  unfold xj at e;split at e
  . simp only[dQ]at ra rb;subst ra;subst rb;split at e
    . rename_i Y;simp only[aq,cJ]at e;simp[Instr.sameBits,Y,e]
    . cases e
  . simp only[dQ]at ra rb;subst ra;subst rb;simp only[aq]at e;simp only[Instr.sameBits];rw[kj]at e;have hab:_=_:=eq_of_beq e;subst hab;rw[rA,kj];simp
  . cases e
 simp[Instr.keyThatStays,this]
theorem xM{t:TypeId}{m k v:V}{m' k' v':Value}{r:h2}(g:Good E h w)(rm:dQ E m m')(rk:dQ E k k')(rv:dQ E v v')(e:sj P t h n m k v=some r):
  jI P E h n w (do Instr.mapUpdate t m' k' v';pure .skip) r:=by
 unfold sj at e;split at e
 . rename_i kt et m hu;split at e
   . rename_i kd X eO Y S;obtain⟨b,fG,hi,hb,AS⟩:=xG g S;obtain⟨b',jr,rfl⟩:=rm;rw[hi]at jr;cases jr;have xJ:=fA (P:=P) hb (by intro _ _ _ q;cases q);have sG:∀o',(setObj b o').run P w= .ok () { w with heap:=w.heap.setIfInBounds b o' }:=fun o'=>jX (P:=P) hb (by intro _ _ _ q;cases q);split at e
     . rename_i hq;obtain⟨Ir,gF⟩:=hq;have Is:=iG (P:=P) (w:=w) (b:=false) Y rk Ir;cases hf:tW kd k X 0 with
       |none=>simp[hf]at e
       |some q=>
        have hr:=u6 rk X fG.toList 0 q AS hf;cases q with
        |none=>
         simp only[hf,aq]at e;subst e;have AR:=xK (clock':=eO+1) (yC:=X++[(k,v,eO)]) (tN:=fG.push { key:=k',val:=v',born:=eO }) g gF S hi hb (by
          rw[Array.toList_push];exact v7 X fG.toList (k,v,eO) { key:=k',val:=v',born:=eO } AS rk rv rfl)
         refine⟨E,_,undef,.inr ⟨?_,rfl⟩,⟨[],rfl,rfl⟩,AR,fun _ _=>rfl,.inl ⟨rfl,rfl⟩⟩;simp only[Instr.mapUpdate,Sem.run_bind,dL hu,Result.andThen_ok,xJ,Is,gL Y hr,sG,Sem.run_pure]
        |some q=>
         obtain⟨j,e0⟩:=q;simp only[hf,aq]at e;subst e;obtain⟨e',a1,a2,a3,a4,a5,a6,a7,a8⟩:=hr;simp only[Nat.sub_zero]at a2 a3;have NS:((fG[j]?).map (·.key)).getD k'=e'.key:=by rw[<- bJ,a3];rfl
         have vr:=BM (P:=P) (w:=w) rk a5 a4;have AR:=xK (clock':=eO) (yC:=iy X j fun e=>(k,v,e.2.2)) (tN:=fG.modify j fun e=>{ e with key:=k',val:=v' }) g gF S hi hb (by
          rw[Array.toList_modify];exact oS (f:=fun e=>(k,v,e.2.2)) (f':=fun e=>{ e with key:=k',val:=v' }) (fun x y p q s=>⟨rk,rv,s⟩) X fG.toList j AS)
         refine⟨E,_,undef,.inr ⟨?_,rfl⟩,⟨[],rfl,rfl⟩,AR,fun _ _=>rfl,.inl ⟨rfl,rfl⟩⟩;simp only[Instr.mapUpdate,Sem.run_bind,dL hu,Result.andThen_ok,xJ,Is,gL Y a8,NS,vr,sG,Sem.run_pure]
     . cases e
   . rename_i kd kk X Y S;split at e
     . rename_i kq vq EL hvq;split at e
       . rename_i hb;simp only[ay,aX]at hb;obtain⟨hd,CU,gF⟩:=hb;obtain rfl:=eB e;obtain⟨b,fG,eO,hi,rD,hr⟩:=xH g S;obtain⟨b',jr,rfl⟩:=rm;rw[hi]at jr;cases jr;have xJ:=fA (P:=P) rD (by intro _ _ _ q;cases q);have sG:∀o',(setObj b o').run P w= .ok () { w with heap:=w.heap.setIfInBounds b o' }:=fun o'=>jX (P:=P) rD (by intro _ _ _ q;cases q);have Ir:=xE EL hd CU;have Is:=iG (P:=P) (w:=w) (b:=false) Y rk Ir;rcases hr.tA hd CU (o5 EL rk) (xn hvq rv).1 with⟨q1,q2⟩|⟨j,e',q1,q2,q3,q4⟩
         . refine⟨E,_,undef,.inr ⟨?_,rfl⟩,⟨[],rfl,rfl⟩,xL g gF S hi rD q2,fun _ _=>rfl,.inl ⟨rfl,rfl⟩⟩;simp only[Instr.mapUpdate,Sem.run_bind,dL hu,Result.andThen_ok,xJ,Is,gL Y q1,sG,Sem.run_pure]
         . have NS:((fG[j]?).map (·.key)).getD k'=e'.key:=by rw[q2];rfl
           have vr:(Instr.keyThatStays e'.key k').run P w= .ok k' w:=by
            have r1:=o5 EL rk;have:e'.key=k':=by
             cases kq<;>first|(simp only[kN]at q3 r1;rw[q3,r1])|(unfold keyOf at EL;split at EL<;>cases EL)
            rw[this];refine BM rk rk (kd:=kd) ?_;have aqG:=(jh CU CU).2 rfl;unfold keyOf at EL;split at EL<;>first|cases EL|skip
            . cases kd<;>cases kk<;>simp only[kP,gm,aM]at hd CU;simp[xj]
            . cases kd<;>cases kk<;>simp only[kP,gm,aM]at hd CU;simp only[xj,kj];simp
           refine⟨E,_,undef,.inr ⟨?_,rfl⟩,⟨[],rfl,rfl⟩,xL g gF S hi rD q4,fun _ _=>rfl,.inl ⟨rfl,rfl⟩⟩;simp only[Instr.mapUpdate,Sem.run_bind,dL hu,Result.andThen_ok,xJ,Is,gL Y q1,NS,vr,sG,Sem.run_pure]
       . cases e
     . cases e
   . cases e
 . cases e
theorem LY{eu:Array TypeId}{ty:TypeId}{args:ag}{dF:List Value}{r:h2}(g:Good E h w)(ra:dV E args dF)(ha:eu.size=2)(e:Ew P eu args h n=some r):
  jI P E h n w (do pure (.value (<- Builtin.delete_ eu ty dF.toArray))) r:=by
 unfold Ew at e;split at e
 . rename_i t m k Q;obtain⟨m',_,rm,⟨k',_,rk,mP,rfl⟩,rfl⟩:=ra;simp only[dV]at mP;subst mP;split at e
   . rename_i kt et hu;split at e
     . rename_i kd kk X kq Y S EL;split at e
       . rename_i hb;simp only[ay,aX]at hb;obtain⟨hd,CU,gF⟩:=hb;obtain rfl:=eB e;obtain⟨b,fG,eO,hi,rD,hr⟩:=xH g S;obtain⟨b',jr,rfl⟩:=rm;rw[hi]at jr;cases jr;have xJ:=fA (P:=P) rD (by intro _ _ _ q;cases q);have sG:∀o',(setObj b o').run P w= .ok () { w with heap:=w.heap.setIfInBounds b o' }:=fun o'=>jX (P:=P) rD (by intro _ _ _ q;cases q);have Ir:=xE EL hd CU;have Is:=iG (P:=P) (w:=w) (b:=fG.isEmpty) Y rk Ir;rcases hr.del hd CU (o5 EL rk)with⟨q1,q2⟩|⟨j,e',q1,q2⟩
         . refine⟨E,_,.tuple #[],.inl ?_,⟨[],rfl,rfl⟩,xL g gF S hi rD q2,fun _ _=>rfl,.inl ⟨rfl,rfl⟩⟩;simp[Builtin.delete_,Q,dL hu,xJ,Is,gL Y q1,sG]
         . refine⟨E,_,.tuple #[],.inl ?_,⟨[],rfl,rfl⟩,xL g gF S hi rD q2,fun _ _=>rfl,.inl ⟨rfl,rfl⟩⟩;simp[Builtin.delete_,Q,dL hu,xJ,Is,gL Y q1,sG]
       . cases e
     . cases e
   . cases e
 . cases e
theorem GH{m:Nat}{kk:Option IntKind}{X:ae}(g:Good E h w)(S:h.get m=some (.ow kk X)):
  ∃b fG,E.ι m=some (b,0)/\w.heap[b]? =some (.map fG X.length)/\lN E.φ kk X fG.toList:=by
 obtain⟨b,s,hi,hs,fG,Q,R⟩:=g.rel m _ S;subst hs;exact⟨b,fG,hi,Q,R⟩
theorem GI{kk:Option IntKind}{X yC:ae}{fG tN:Array MapEntry}(g:Good E h w)(gF:m<fV)(S:h.get m=some (.ow kk X))(hi:E.ι m=some (b,0))(hb:w.heap[b]? =some (.map fG eO))
  (K:clock'=yC.length) (AS:lN E.φ kk yC tN.toList):iL E h w E (h.set m (some (.ow kk yC))) { w with heap:=w.heap.setIfInBounds b (.map tN clock') }:=by
 subst K;have eM:b<w.heap.size:=(aT.1 hb).1;refine iL.write g gF ⟨_,S,rfl⟩ hi (by simp) rfl rfl rfl (fun x H=>?_) ⟨rfl,tN,?_,AS⟩
 . simp[Ne.symm H]
 . simp[eM]
end
theorem lN.push{φ:Nat->Option (Array Value)}{kk:Option IntKind}{X:ae}{fG:Array MapEntry}{k v:D}{k' v':Value}(r:lN φ kk X fG.toList)(Y:gm kk k=true)(hn:k∉X.map (·.1))(rk:kN φ k k')(rv:kN φ v v'):
  lN φ kk (X++[(k,v)]) (fG.push { key:=k',val:=v',born:=X.length }).toList:=by
 rw[Array.toList_push];refine⟨vZ X fG.toList (k,v) _ r.row rk rv,?_,fun e he=>?_,?_⟩
 . rw[bR];exact List.nodup_append.2 ⟨r.keys,by simp,fun a ha b hb=>by simp at hb;subst hb;intro q;subst q;exact hn ha⟩
 . rcases bf.1 he with q|q
   . exact r.kind e q
   . rw[aG]at q;subst q;exact Y
 . rw[bR,r.born,aJ,List.length_singleton,List.range_succ];rfl
theorem v8{α:Type}(f:α->α):∀(l:List α) (i:Nat),(iy l i f).length=l.length/\∀x∈iy l i f,x∈l\/∃y∈l,x=f y
 | [],_=>⟨rfl,fun x H=>.inl H⟩
 |a::l,0=>⟨rfl,fun x H=>by
  simp only[iy,aD]at H;rcases H with q|q
  . exact .inr ⟨a,by simp,q⟩
  . exact .inl (by simp[q])⟩
 |a::l,i+1=>by
  obtain⟨Q,R⟩:=v8 f l i;refine⟨by simp only[iy,aR,Q],fun x H=>?_⟩;simp only[iy,aD]at H;rcases H with q|q
  . exact .inl (by simp[q])
  . rcases R x q with q|⟨y,hy,q⟩
    . exact .inl (by simp[q])
    . exact .inr ⟨y,by simp[hy],q⟩
theorem um(v:D):∀(l:ae) (i:Nat),(iy l i fun e=>(e.1,v)).map (·.1)=l.map (·.1)
 | [],_=>rfl
 |_::_,0=>rfl
 |a::l,i+1=>by simp only[iy,cC,um v l i]
theorem DO{φ:Nat->Option (Array Value)}{v:D}{v':Value}(rv:kN φ v v'):∀(l:ae) (X:List MapEntry) (i:Nat),kD φ l X->kD φ (iy l i fun e=>(e.1,v)) (X.modify i fun e=>{ e with val:=v' })
 | [],_,i,r=>by simp only[kD]at r;subst r;simp[kD,iy]
 |a::l,_,i,r=>by
  obtain⟨y,ys,r1,r2,rs,rfl⟩:=r;cases i with
  |zero=>exact⟨{ y with val:=v' },ys,r1,rv,rs,by simp⟩
  |succ i=>exact⟨y,_,r1,r2,DO rv l ys i rs,by simp⟩
theorem lN.val{φ:Nat->Option (Array Value)}{kk:Option IntKind}{X:ae}{fG:Array MapEntry}{v:D}{v':Value}(i:Nat)(r:lN φ kk X fG.toList)(rv:kN φ v v'):
  lN φ kk (iy X i fun e=>(e.1,v)) (fG.modify i fun e=>{ e with val:=v' }).toList:=by
 rw[Array.toList_modify];refine⟨DO rv X fG.toList i r.row,by rw[um];exact r.keys,fun e he=>?_,?_⟩
 . have:e.1∈(iy X i fun e=>(e.1,v)).map (·.1):=bQ.2 ⟨e,he,rfl⟩;rw[um]at this;obtain⟨x,H,q⟩:=bQ.1 this;rw[<- q];exact r.kind x H
 . rw[(v8 _ X i).1,<- r.born];apply List.ext_getElem?;intro j;simp only[bE,List.getElem?_modify];by_cases NR:i=j
   . simp[NR];cases fG.toList[j]? <;>rfl
   . simp[NR]
theorem lN.at{φ:Nat->Option (Array Value)}{kk:Option IntKind}{X:ae}{fG:Array MapEntry}{b:Int}(r:lN φ kk X fG.toList)(h0:0<=b)(Q:b<X.length):fG.findIdx? (fun e=>(e.born:Int)==b)=some b.toNat:=by
 have q:=List.findIdx?_toArray (fun(e:MapEntry)=>(e.born:Int)==b) fG.toList;rw[Array.toArray_toList]at q;rw[q,bL];have hl:=aH List.length r.born;rw[bI,List.length_range]at hl;have hg:∀(j:Nat) (hj:j<fG.toList.length),(fG.toList[j]).born=j:=fun j hj=>by
  have:=aH (fun l=>l[j]?) r.born;simp only[bE,au hj]at this;rw[au (by rw[List.length_range];omega),List.getElem_range]at this;simpa using this
 refine⟨G,?_,fun j hj=>?_⟩
 . rw[hg];simp;omega
 . rw[hg];simp;omega
theorem GJ{t:TypeId}{m k:V}{m' k':Value}{r:h2}(g:Good E h w)(rm:dQ E m m')(rk:dQ E k k')(e:uV P t h n m k=some r):
  jI P E h n w (do pure (.value (<- Instr.mapEntry t m' k'))) r:=by
 unfold uV at e;split at e
 . rename_i kt et m hu;split at e
   . rename_i kd X eO z Y S hz;obtain⟨b,fG,hi,hb,AS⟩:=xG g S;obtain⟨b',jr,rfl⟩:=rm;rw[hi]at jr;cases jr;have xJ:=fA (P:=P) hb (by intro _ _ _ q;cases q);have sG:∀o',(setObj b o').run P w= .ok () { w with heap:=w.heap.setIfInBounds b o' }:=fun o'=>jX (P:=P) hb (by intro _ _ _ q;cases q);obtain⟨z',KF,Gw,_⟩:=kT (w:=w) E hz;split at e
     . rename_i hq;obtain⟨Ir,gF⟩:=hq;have Is:=iG (P:=P) (w:=w) (b:=false) Y rk Ir;cases hf:tW kd k X 0 with
       |none=>simp[hf]at e
       |some q=>
        have hr:=u6 rk X fG.toList 0 q AS hf;cases q with
        |none=>
         simp only[hf,aq]at e;subst e;have AR:=xK (clock':=eO+1) (yC:=X++[(k,z,eO)]) (tN:=fG.push { key:=k',val:=z',born:=eO }) g gF S hi hb (by
          rw[Array.toList_push];exact v7 X fG.toList (k,z,eO) { key:=k',val:=z',born:=eO } AS rk Gw rfl)
         refine⟨E,_,.tuple #[z',.int .i64 eO],.inl ?_,⟨[z',.int .i64 eO],⟨z',_,Gw,⟨.int .i64 eO,[],rfl,rfl,rfl⟩,rfl⟩,rfl⟩,AR,fun _ _=>rfl,.inl ⟨rfl,rfl⟩⟩;simp only[Instr.mapEntry,Sem.run_bind,dL hu,Result.andThen_ok,xJ,Is,gL Y hr,KF,sG,Sem.run_pure,goInt]
        |some q=>
         obtain⟨j,e0⟩:=q;simp only[hf,aq]at e;subst e;obtain⟨e',a1,a2,a3,a4,a5,a6,a7,a8⟩:=hr;simp only[Nat.sub_zero]at a2 a3;have NS:((fG[j]?).map (·.key)).getD k'=e'.key:=by rw[<- bJ,a3];rfl
         have KG:(Option.map (fun x=>(x.born:Int)) fG[j]?).getD 0=(e0.2.2:Int):=by rw[<- bJ,a3];exact aH _ a7
         have vr:=BM (P:=P) (w:=w) rk a5 a4;have AR:=xK (clock':=eO) (yC:=iy X j fun e=>(k,e.2.1,e.2.2)) (tN:=fG.modify j fun e=>{ e with key:=k' }) g gF S hi hb (by
          rw[Array.toList_modify];exact oS (f:=fun e=>(k,e.2.1,e.2.2)) (f':=fun e=>{ e with key:=k' }) (fun x y p q s=>⟨rk,q,s⟩) X fG.toList j AS)
         refine⟨E,_,.tuple #[e'.val,.int .i64 e0.2.2],.inl ?_,⟨[e'.val,.int .i64 e0.2.2],⟨e'.val,_,a6,⟨.int .i64 e0.2.2,[],rfl,rfl,rfl⟩,rfl⟩,rfl⟩,AR,fun _ _=>rfl,.inl ⟨rfl,rfl⟩⟩;simp only[Instr.mapEntry,Sem.run_bind,dL hu,Result.andThen_ok,xJ,Is,gL Y a8,NS,KG,vr,sG,Sem.run_pure,goInt]
     . cases e
   . rename_i kd kk X z Y S hz;split at e
     case h_2=>cases e
     rename_i kq z0 EL Y5;split at e
     case h_2=>cases e
     rename_i W;split at e
     case isFalse=>cases e
     rename_i hb;simp only[ay,aX]at hb;obtain⟨hd,CU,gF⟩:=hb;obtain rfl:=eB e;obtain⟨b,fG,hi,rD,hr⟩:=GH g S;obtain⟨b',jr,rfl⟩:=rm;rw[hi]at jr;cases jr;have xJ:=fA (P:=P) rD (by intro _ _ _ q;cases q);have sG:∀o',(setObj b o').run P w= .ok () { w with heap:=w.heap.setIfInBounds b o' }:=fun o'=>jX (P:=P) rD (by intro _ _ _ q;cases q);obtain⟨z',KF,Gw,_⟩:=kT (w:=w) E hz;have Ir:=xE EL hd CU;have Is:=iG (P:=P) (w:=w) (b:=false) Y rk Ir;have hf:=rE hd CU (o5 EL rk) X fG.toList 0 hr.row hr.kind;rw[W]at hf;obtain⟨q1,_,_,q4⟩:=hf;have AR:=GI (clock':=X.length+1) (yC:=X++[(kq,z0)]) (tN:=fG.push { key:=k',val:=z',born:=X.length }) g gF S hi rD (by simp) (hr.push CU q4 (o5 EL rk) (xn Y5 Gw).1);refine⟨E,_,.tuple #[z',.int .i64 X.length],.inl ?_,⟨[z',.int .i64 X.length],⟨z',_,Gw,⟨.int .i64 X.length,[],rfl,rfl,rfl⟩,rfl⟩,rfl⟩,AR,fun _ _=>rfl,.inl ⟨rfl,rfl⟩⟩;simp only[Instr.mapEntry,Sem.run_bind,dL hu,Result.andThen_ok,xJ,Is,gL Y q1,KF,sG,Sem.run_pure,goInt]
   . cases e
 . cases e
section
variable{eu:Array TypeId}{ty:TypeId}
theorem EM{m o l jH z:Nat}{dF:List Value}(g:Good E h w)(ra:dV E [.eS (some (m,o)) l jH z] dF)(K:0<jH):
  jI P E h n w (do pure (.value (<- Builtin.unsafeSliceData_ eu ty dF.toArray))) (.val (.ptr (some (m,o))) h n):=by
 obtain⟨x',_,⟨b,s,o',gp,Q,R,h3,h4,h5,rfl⟩,mP,rfl⟩:=ra;simp only[dV]at mP;subst mP;have:=R K;subst this;refine ee g (v':=.pointer (some ⟨b,s+o,none⟩)) ?_ ⟨b,s,Q,rfl⟩;rw[Sem.run_bind,Lib.run_unsafeSliceData_row w eu ty ⟨b,s+o,none⟩ l gp G];rfl
theorem AG{pt e:TypeId}{m:Nat}{l:Int}{zO:Bool}{t:aa}{dF:List Value}(g:Good E h w)(ra:dV E [.ptr (some (m,0)),.int .i64 l] dF)(Uf:eu[0]? =some pt)(ha:eu.size=2)(hp:P.underlying pt=some (.pointer e))
  (S:h.get m=some (.tr e zO t)) (hl:l=t.length) (h0:0<t.length) (hce:P.cellsOf e=1) (gF:m<fV) (h63:t.length<=vR):
  jI P E h n w (do pure (.value (<- Builtin.unsafeString_ eu ty dF.toArray))) (.val (.str t) (h.set m (some (.tr e true t))) n):=by
 obtain⟨x',_,⟨b,s,Q,rfl⟩,⟨y',_,r2,mP,rfl⟩,rfl⟩:=ra;simp only[dV]at mP;subst mP;simp only[dQ]at r2;subst r2;obtain⟨b',A,ot,c,fz,xs,rD,hs,mg,⟨C9,IW⟩,BI,mh⟩:=g.rel m _ S;rw[Q]at ot;cases ot;subst hs;have IV:xs.length=t.length:=by rw[<- BI];simp[ir]
 have qb:t.length<=c.size:=by
  have R:=mh (t.length-1) (xs[t.length-1]'(by omega)) (au G);have:=(aT.1 R).1;omega
 have mR:eu=#[pt,eu[1]'(by omega)]:=by
  apply Array.ext
  . simpa using ha
  . intro i q1 q2;have:i=0\/i=1:=by simp at q2;omega
    rcases this with rfl|rfl
    . rw[aZ q1]at Uf;simpa using Uf
    . rfl
 have hlb:∀(l:List Int) (k:Nat) (DG:ByteArray),(∀(j:Nat) (x:Int),l[j]? =some x->c[k+j]? =some (.int .u8 x))->(loadBytes ⟨b,k,none⟩ DG l.length).run P w= .ok ⟨DG.data++(ir l).toArray⟩ w:=by
  intro l
  induction l with
  |nil=>intro k DG _;simp[loadBytes,ir]
  |cons x l ih=>
   intro k DG hh;have e0:=hh 0 x rfl;simp only[aR,loadBytes,Sem.run_bind,run_load,Addr.iV];rw[show(⟨b,k,none⟩:Addr)=⟨b,k+0,none⟩from rfl,mM rD,e0];simp only[Result.andThen_ok];rw[ih (k+0+1) _ (fun j y hy=>by have:=hh (j+1) y (by simpa using hy);rw[<- this];congr 1;omega)];congr 1;simp[ir,ByteArray.push]
 have Z4:=hlb xs 0 .empty (fun j x H=>by rw[b5];exact mh j x H);rw[IV,BI]at Z4;have ZS:w.shape? b=some (e,c.size):=by simp[World.shape?,rD]
 have Z5:=Lib.liesAt_bytes (P:=P) hce (c.size/P.cellsOf e) t.length (by rw[hce];simpa using qb);have CS:t.length≠0:=by omega
 have af1:¬(9223372036854775807:Int)<(t.length:Int):=by unfold vR at h63;omega
 have af2:IntKind.i64.max=9223372036854775807:=rfl;have af3:¬(t.length:Int)<0:=by omega
 have hun:=hp;have gi:(Builtin.unsafeString_ eu ty #[.pointer (some ⟨b,0,none⟩),.int .i64 t.length]).run P w= .ok (.string ⟨t.toArray⟩) (w.freeze ⟨b,0,none⟩ t.length):=by
  rw[mR];have af4:Builtin.unsafeString_ #[pt,eu[1]'(by omega)] ty #[.pointer (some ⟨b,0,none⟩),.int .i64 t.length]=
   (do
    let n <- asInt (.int .i64 t.length)
    if n<0 then runtimePanic (.error "unsafe.String: len out of range")
    if n>IntKind.i64.max then unsupported (.unsafePointer "String: a length above the largest int")
    if n=0 then pure (.string .empty)
    else if <- variablesAt ⟨b,0,none⟩ (<- elemOf pt) n.toNat then do
     let s <- loadBytes ⟨b,0,none⟩ .empty n.toNat
     freeze ⟨b,0,none⟩ n.toNat
     pure (.string s)
    else unsupported (.unsafePointer "String: not so many bytes at ptr")):=rfl
  rw[af4];simp[asInt,asIntOf,af2,af1,af3,CS,variablesAt,ZS,elemOf,dL hp,Z5,Z4]
  done
 have h00:(0:Nat)+0=0:=rfl;refine⟨E,w.freeze ⟨b,0,none⟩ t.length,.string ⟨t.toArray⟩,.inl ?_,rfl,?_,fun _ _=>rfl,.inl ⟨rfl,rfl⟩⟩
 . rw[Sem.run_bind,h00,hl];rw[gi];rfl
 . have ED:eL h m:=⟨_,S,rfl⟩;have Zd:b<w.heap.size:=(aT.1 rD).1;refine iL.write g gF ED Q (by unfold World.freeze;rw[aB CS];simp) (by unfold World.freeze;rw[aB CS]) (by unfold World.freeze;rw[aB CS]) (by unfold World.freeze;rw[aB CS]) (fun x H=>by unfold World.freeze;rw[aB CS];simp only[cP];rw[aB (Ne.symm H)]) ?_;refine⟨c,(if fz.1==fz.2 then(0,0+t.length)else(min fz.1 0,max fz.2 (0+t.length))),xs,by unfold World.freeze;rw[aB CS];simp[cP,rD],rfl,mg,⟨.inr ?_,fun q=>by simp at q⟩,BI,mh⟩;split
   . simp
   . rename_i q;have:¬fz.1=fz.2:=by simpa using q
     simp only[b5];omega
end
theorem BN{b:Int}:∀(xs:List (V×V×Nat)) (ys:List MapEntry) (i j:Nat),kC E xs ys->yI b xs i=some j->i<=j/\ys.findIdx? (fun e=>(e.born:Int)==b)=some (j-i)
 | [],_,i,j,r,e=>by simp[yI]at e
 |x::xs,_,i,j,r,e=>by
  obtain⟨y,ys,_,_,c,rs,rfl⟩:=r;simp only[yI]at e;split at e
  . rename_i hb;obtain rfl:=eB e;refine⟨aK _,?_⟩;rw[List.findIdx?_cons,aE (by rw[c];exact hb)];simp
  . rename_i hb;obtain⟨Q,R⟩:=BN xs ys (i+1) j rs e;refine⟨G,?_⟩;rw[List.findIdx?_cons,aB (by rw[c];exact hb),R];simp;omega
section
variable{t:TypeId}{h':I O}{x:V}{n':Nat}{x':Value}{r:h2}
theorem Dj{m s v:V}{m' A v':Value}{r:h2}(g:Good E h w)(rm:dQ E m m')(rs:dQ E s A)(rv:dQ E v v')(e:ql h n m s v=some r):
  jI P E h n w (do Instr.entryStore t m' A v';pure .skip) r:=by
 unfold ql at e;split at e
 . rename_i m k b0;simp only[dQ]at rs;subst rs;split at e
   . rename_i X eO S;obtain⟨b,fG,hi,hb,AS⟩:=xG g S;obtain⟨b',jr,rfl⟩:=rm;rw[hi]at jr;cases jr;have xJ:=fA (P:=P) hb (by intro _ _ _ q;cases q);have sG:∀o',(setObj b o').run P w= .ok () { w with heap:=w.heap.setIfInBounds b o' }:=fun o'=>jX (P:=P) hb (by intro _ _ _ q;cases q);split at e
     . rename_i gF;cases hf:yI b0 X 0 with
       |none=>simp[hf]at e
       |some j=>
        simp only[hf,aq]at e;subst e;obtain⟨_,R⟩:=BN X fG.toList 0 j AS hf;have h3:fG.findIdx? (fun e=>(e.born:Int)==b0)=some j:=by
         have q:=List.findIdx?_toArray (fun(e:MapEntry)=>(e.born:Int)==b0) fG.toList;rw[Array.toArray_toList]at q;rw[q];simpa using R
        have AR:=xK (clock':=eO) (yC:=iy X j fun e=>(e.1,v,e.2.2)) (tN:=fG.modify j fun e=>{ e with val:=v' }) g gF S hi hb (by
         rw[Array.toList_modify];exact oS (f:=fun e=>(e.1,v,e.2.2)) (f':=fun e=>{ e with val:=v' }) (fun x y p q s=>⟨p,rv,s⟩) X fG.toList j AS)
        refine⟨E,_,undef,.inr ⟨?_,rfl⟩,⟨[],rfl,rfl⟩,AR,fun _ _=>rfl,.inl ⟨rfl,rfl⟩⟩;simp only[Instr.entryStore,Sem.run_bind,xJ,Result.andThen_ok,asInt,asIntOf,Sem.run_pure,h3,sG]
     . cases e
   . rename_i kk X S;split at e
     case h_2=>cases e
     rename_i v0 NT;split at e
     case isFalse=>cases e
     rename_i hq;obtain⟨gF,ZV,RD⟩:=hq;obtain rfl:=eB e;obtain⟨b,fG,hi,rD,hr⟩:=GH g S;obtain⟨b',jr,rfl⟩:=rm;rw[hi]at jr;cases jr;have xJ:=fA (P:=P) rD (by intro _ _ _ q;cases q);have sG:∀o',(setObj b o').run P w= .ok () { w with heap:=w.heap.setIfInBounds b o' }:=fun o'=>jX (P:=P) rD (by intro _ _ _ q;cases q);have h3:=hr.at ZV RD;have AR:=GI (clock':=X.length) (yC:=iy X b0.toNat fun e=>(e.1,v0)) (tN:=fG.modify b0.toNat fun e=>{ e with val:=v' }) g gF S hi rD (v8 _ X _).1.symm (hr.val _ (xn NT rv).1);refine⟨E,_,undef,.inr ⟨?_,rfl⟩,⟨[],rfl,rfl⟩,AR,fun _ _=>rfl,.inl ⟨rfl,rfl⟩⟩;simp only[Instr.entryStore,Sem.run_bind,xJ,Result.andThen_ok,asInt,asIntOf,Sem.run_pure,h3,sG]
   . cases e
 . cases e
theorem zY{s:Sem Next}{o:O}{ob:Obj}{v:V}{v':Value}(g:Good E h w)(hn:E.ι n=none)(e:newObj h n o=some (h',n'))
  (ho:∀E1 w1,w1.heap[w.heap.size]? =some ob->nA E1 w1 w.heap.size 0 o) (hr:s.run P w= .ok (.value v') (w.alloc ob)) (hv:dQ (E.put n w.heap.size 0 (jN ob)) v v'):jI P E h n w s (.val v h' n'):=by
 obtain⟨gF,rfl,rfl⟩:=kG e;exact⟨_,_,v',.inl hr,hv,iL.alloc g hn gF (ho _ _ heap_alloc_new),fun m S=>Env.gQ S,.inr rfl⟩
theorem IY(g:Good E h w)(hn:E.ι n=none)(e:newObj h n (.map [] 0)=some (h',n')):
  jI P E h n w (do pure (.value (<- Instr.makeMap t none))) (.val (.map (some n)) h' n'):=by
 refine zY (ob:=.map #[] 0) (v':=.map (some w.heap.size)) g hn e (fun E1 w1 q=>⟨rfl,#[],q,by simp[kC]⟩) ?_ ⟨w.heap.size,Env.fM,rfl⟩;simp[Instr.makeMap]
theorem NU(g:Good E h w)(hn:E.ι n=none)(rx:dQ E x x')(e:Bu P t x h n=some r):
  jI P E h n w (do pure (.value (<- Instr.range t x'))) r:=by
 unfold Bu at e;split at e
 . rename_i s hu;simp only[dQ]at rx;subst rx;cases ho:newObj h n (.nq s 0)with
   |none=>simp[ho]at e
   |some p=>
    obtain⟨h',n'⟩:=p;simp only[ho,aq]at e;subst e;refine zY (ob:=.stringIter ⟨s.toArray⟩ 0) (v':=.pointer (some ⟨w.heap.size,0,none⟩)) g hn ho (fun E1 w1 q=>⟨rfl,q⟩) ?_ ⟨w.heap.size,0,Env.fM,by simp⟩;simp[Instr.range,dL hu]
 . cases e
theorem RH{b:Bool}{t:TypeId}{x':Value}{r:h2}(g:Good E h w)(rx:dQ E x x')(e:Np x b h n=some r):
  jI P E h n w (do pure (.value (<- Instr.next x' b t))) r:=by
 unfold Np at e;split at e
 . rename_i m;obtain⟨b0,s0,hi,rfl⟩:=rx;split at e
   . rename_i s pos S;obtain⟨b1,s1,Z6,pG,hb⟩:=g.rel m _ S;rw[hi]at Z6;cases Z6;subst pG;have xJ:=fA (P:=P) hb (by intro _ _ _ q;cases q);have sG:∀o',(setObj b0 o').run P w= .ok () { w with heap:=w.heap.setIfInBounds b0 o' }:=fun o'=>jX (P:=P) hb (by intro _ _ _ q;cases q);have eM:b0<w.heap.size:=(aT.1 hb).1;have mg:(⟨s.toArray⟩:ByteArray).size=s.length:=by show s.toArray.size=_;simp
     split at e
     . rename_i hp;simp only at e;split at e
       . rename_i gF;obtain rfl:=eB e;have AR:iL E h w E (h.set m (some (.nq s (pos+(Utf8.decode ⟨s.toArray⟩ pos).2)))) { w with heap:=w.heap.setIfInBounds b0 (.stringIter ⟨s.toArray⟩ (pos+(Utf8.decode ⟨s.toArray⟩ pos).2)) }:=by
          refine iL.write g gF ⟨_,S,rfl⟩ hi (by simp) rfl rfl rfl (fun x H=>?_) ⟨rfl,?_⟩
          . simp[Ne.symm H]
          . simp[eM]
         refine⟨E,_,.tuple #[.bool true,.int .i64 pos,.int .i32 (Utf8.decode ⟨s.toArray⟩ pos).1],.inl ?_,⟨[.bool true,.int .i64 pos,.int .i32 (Utf8.decode ⟨s.toArray⟩ pos).1],⟨_,_,rfl,⟨_,_,rfl,⟨_,_,rfl,rfl,rfl⟩,rfl⟩,rfl⟩,rfl⟩,AR,fun _ _=>rfl,.inl ⟨rfl,rfl⟩⟩;simp[Instr.next,xJ,mg,hp,sG,goInt]
       . cases e
     . rename_i hp;obtain rfl:=eB e;refine ee g (v':=.tuple #[.bool false]) ?_ ⟨[.bool false],⟨_,_,rfl,rfl,rfl⟩,rfl⟩;simp[Instr.next,xJ,mg,hp]
   . cases e
 . cases e
end
end
section
variable{P:Program}{E:Env}{h:I O}{n:Nat}{w:World}{F:I V}{ρ:Operand->Value}
section
variable{eu:Array TypeId}{ty:TypeId}
theorem GK{l jH z:Nat}{dF:List Value}(g:Good E h w)(ra:dV E [.eS none l jH z] dF):
  jI P E h n w (do pure (.value (<- Builtin.unsafeSliceData_ eu ty dF.toArray))) (.val (.ptr none) h n):=by
 obtain⟨x',_,⟨_,_,rfl⟩,mP,rfl⟩:=ra;simp only[dV]at mP;subst mP;refine ee g (v':=.pointer none) ?_ rfl;rw[Sem.run_bind,Lib.run_unsafeSliceData_nil];rfl
theorem wc{pt:TypeId}{dF:List Value}(g:Good E h w)(ra:dV E [.ptr none,.int .i64 0] dF)(Uf:eu[0]? =some pt)(ha:eu.size=2):
  jI P E h n w (do pure (.value (<- Builtin.unsafeString_ eu ty dF.toArray))) (.val (.str []) h n):=by
 obtain⟨x',_,r1,⟨y',_,r2,mP,rfl⟩,rfl⟩:=ra;simp only[dV]at mP;subst mP;simp only[dQ]at r1 r2;subst r1;subst r2;have mR:eu=#[pt,eu[1]'(by omega)]:=by
  apply Array.ext
  . simp[ha]
  . intro i Q R;have:i=0\/i=1:=by omega
    rcases this with rfl|rfl
    . have:=(aT.1 Uf).2;simpa using this
    . rfl
 refine ee g (v':=.string ⟨#[]⟩) ?_ rfl;rw[Sem.run_bind,mR];have:=Lib.run_unsafeString_none (P:=P) w pt (eu[1]'(by omega)) ty none;simp only[List.toArray]at this ⊢;rw[this];rfl
end
def mS(E:Env)(F:I V)(ρ:Operand->Value)(x:Operand):Prop:=∀v,iK F x=some v->dQ E v (ρ x)
theorem uo:∀(xs:List Operand) (vs:ag),(∀x∈xs,mS E F ρ x)->uc F xs=some vs->dV E vs (xs.map ρ)
 | [],vs,_,e=>by simp only[uc,aq]at e;subst e;rfl
 |x::xs,vs,hr,e=>by
  simp only[uc]at e;cases Q:iK F x with
  |none=>simp[Q]at e
  |some v=>cases R:uc F xs with
   |none=>simp[Q,R]at e
   |some r=>
    simp only[Q,R,aq]at e;subst e;exact⟨ρ x,xs.map ρ,hr x (by simp) v Q,uo xs r (fun y hy=>hr y (by simp[hy])) R,rfl⟩
theorem sH:∀(xs:List (Nat×Operand)) (vs:List (Nat×V)),(∀x∈xs.map (·.2),mS E F ρ x)->pg F xs=some vs->zT E vs (xs.map fun x=>(x.1,ρ x.2))
 | [],vs,_,e=>by simp only[pg,aq]at e;subst e;rfl
 |(i,x)::xs,vs,hr,e=>by
  simp only[pg]at e;cases Q:iK F x with
  |none=>simp[Q]at e
  |some v=>cases R:pg F xs with
   |none=>simp[Q,R]at e
   |some r=>
    simp only[Q,R,aq]at e;subst e;exact⟨(i,ρ x),_,rfl,hr x (by simp) v Q,sH xs r (fun y hy=>hr y (by simp at hy ⊢;exact .inr hy)) R,rfl⟩
theorem we{x:Option Operand}{v:Option V}(hr:∀y,x=some y->mS E F ρ y)(e:lZ F x=some v):nI E v (x.map ρ):=by
 cases x with
 |none=>simp only[lZ,aq]at e;subst e;rfl
 |some x=>
  simp only[lZ]at e;cases Q:iK F x with
  |none=>simp[Q]at e
  |some y=>simp only[Q,aq]at e;subst e;exact⟨ρ x,hr x rfl y Q,rfl⟩
theorem gd{v:Option V}{r:h2}(e:kx h n v=some r):∃x,v=some x/\r= .val x h n:=by
 cases v with
 |none=>simp[kx]at e
 |some x=>simp only[kx,aq]at e;exact⟨x,rfl,e.symm⟩
theorem sI{f:FuncId}{args:Array Value}(K:callee P f=true):(callFunc f args).run P w= .ok (.enter f args) w:=by
 unfold callee at K;split at K
 . rename_i fn hf;simp only[ay,bne_iff_ne,ne_eq]at K;obtain⟨Q,R⟩:=K;have h3:fn.body.isNone=false:=by cases hb:fn.body<;>simp_all
   have h4:(fn.name == "runtime.NumGoroutine")=false:=by simpa using R
   simp only[callFunc,Sem.run_bind,run_program,Result.andThen_ok,hf,h4,h3,aM,cr];rfl
 . cases K
section
variable{c:Call}{ty:TypeId}{r:h2}
theorem IZ(g:Good E h w)(hn:E.ι n=none)(hr:∀x∈c.operands,mS E F ρ x)(e:vC P F c h n=some r):
  jI P E h n w (do let d <- resolve ρ c ty;invoke d.target d.args) r:=by
 unfold vC at e;split at e
 . rename_i args ha;have mj:=uo (E:=E) (ρ:=ρ) c.args.toList args (fun x H=>hr x (by simp[Call.operands];exact .inr (by simpa using H))) ha;have BO:c.args.map ρ=(c.args.toList.map ρ).toArray:=by apply Array.ext';simp
   split at e
   . rename_i b K;unfold kQ at e;split at e
     . split at e
       . rename_i R;have:=LQ (P:=P) (ty:=ty) g hn mj e R;simpa[resolve,K,invoke,builtin,BO]using this
       . cases e
     . obtain⟨v,Q,rfl⟩:=gd e;have:=Vq (P:=P) (n:=n) (ty:=ty) g mj Q;simpa[resolve,K,invoke,builtin,BO]using this
     . split at e
       . obtain⟨v,Q,rfl⟩:=gd e;have:=Vr (P:=P) (n:=n) (eu:=c.argTypes) (ty:=ty) g mj Q;simpa[resolve,K,invoke,builtin,BO]using this
       . cases e
     . split at e
       . obtain⟨v,Q,rfl⟩:=gd e;have:=Vs (P:=P) (n:=n) (eu:=c.argTypes) (ty:=ty) g mj Q;simpa[resolve,K,invoke,builtin,BO]using this
       . cases e
     . split at e
       . rename_i t v;obtain rfl:=eB e;obtain⟨x',_,⟨y,ry,rfl⟩,mP,hl⟩:=mj;simp only[dV]at mP;subst mP;have h0:(c.args.map ρ).getD 0 .nilIface= .iface t y:=by rw[BO,hl];rfl
         refine⟨.iface t y,?_,y,ry,rfl⟩;simp only[resolve,K,pure_bind,invoke,builtin];rw[h0];rfl
       . cases e
     . obtain rfl:=eB e;show _=_;simp[resolve,K,invoke,builtin]
     . split at e
       . split at e
         . rename_i tw;obtain rfl:=eB e;have:=EM (P:=P) (n:=n) (eu:=c.argTypes) (ty:=ty) g mj tw;simpa[resolve,K,invoke,builtin,BO]using this
         . cases e
       . obtain rfl:=eB e;have:=GK (P:=P) (n:=n) (eu:=c.argTypes) (ty:=ty) g mj;simpa[resolve,K,invoke,builtin,BO]using this
       . cases e
     . split at e
       . rename_i pt m l Uf;split at e
         . rename_i e0 el zO s hp S;split at e
           . rename_i hq;obtain⟨⟨q1,q2⟩,⟨rfl,q3⟩,q4,q5,q6⟩:=hq;obtain rfl:=eB e;have:=AG (P:=P) (n:=n) (eu:=c.argTypes) (ty:=ty) g mj Uf q5 hp S q1 q2 q3 q4 q6;simpa[resolve,K,invoke,builtin,BO]using this
           . cases e
         . cases e
       . rename_i pt l Uf;split at e
         . rename_i hq;obtain⟨q1,q5⟩:=hq;subst q1;obtain rfl:=eB e;have:=wc (P:=P) (n:=n) (eu:=c.argTypes) (ty:=ty) g mj Uf q5;simpa[resolve,K,invoke,builtin,BO]using this
         . cases e
       . cases e
     . split at e
       . rename_i R;have:=LY (P:=P) (ty:=ty) g mj R e;simpa[resolve,K,invoke,builtin,BO]using this
       . cases e
     . cases e
   . cases e
   . rename_i f K;split at e
     . rename_i gf first captured hf
       split at e
       . rename_i BP;obtain rfl:=eB e;obtain⟨f',fi,ca,Rc,r1,r2,Z7⟩:=hr f (by simp[Call.operands,K]) _ hf;simp only[zQ]at Rc;subst Rc;refine⟨fi++c.args.toList.map ρ++ca,iF (iF r1 mj) r2,.inl ⟨?_,BP⟩⟩;have lA:=sI (w:=w) (args:=(fi++c.args.toList.map ρ++ca).toArray) BP;simp only[resolve,K,Z7,Deferred.ofValue,pure_bind,invoke];rw[<- lA];congr 2;apply Array.ext';simp
       . cases e
     . rename_i m hf;obtain⟨f',fi,ca,⟨l,s,iS,Rc⟩,r1,r2,Z7⟩:=hr f (by simp[Call.operands,K]) _ hf;subst Rc;simp only[dV]at r1 r2;subst r1;subst r2;split at e
       . split at e
         . obtain rfl:=eB e;refine⟨c.args.toList.map ρ,mj,.inr ⟨m,l,s,rfl,iS,?_⟩⟩;simp only[resolve,K,Z7,Deferred.ofValue,pure_bind,invoke,BO];simp
         . cases e
       . cases e
     . cases e
 . cases e
theorem GL(hr:∀x∈c.operands,mS E F ρ x)(e:Bv F c=some r):
  jI P E h n w (do pure (.defer (<- resolve ρ c ty))) r:=by
 unfold Bv at e;split at e
 . rename_i args ha;have mj:=uo (E:=E) (ρ:=ρ) c.args.toList args (fun x H=>hr x (by simp[Call.operands];exact .inr (by simpa using H))) ha;split at e
   . rename_i f K;split at e
     . rename_i gf first captured hf
       obtain rfl:=eB e;obtain⟨f',fi,ca,Rc,r1,r2,Z7⟩:=hr f (by simp[Call.operands,K]) _ hf;simp only[zQ]at Rc;subst Rc;refine⟨ca,fi++c.args.toList.map ρ,?_,r2,iF r1 mj⟩;simp only[resolve,K,Z7,Deferred.ofValue,pure_bind];show Result.ok _ w=_;congr 3;apply Array.ext';simp
     . cases e
   . cases e
 . cases e
end
set_option maxHeartbeats 1000000 in
theorem nJ{o:Oper}{r:h2}(g:Good E h w)(hn:E.ι n=none)(hr:∀x∈o.op.operands,mS E F ρ x)(e:dO P o F h n=some r):jI P E h n w (execOp ρ o) r:=by
 obtain⟨dst,op,ty,pos,after,guard⟩:=o;simp only at hr;cases op<;>simp only[dO]at e<;>simp only[Op.operands]at hr<;>simp only[execOp]
 case move x=>
  obtain⟨v,Q,rfl⟩:=gd e;exact ee g rfl (hr x (by simp) v Q)
 case assign x=>
  obtain⟨v,Q,rfl⟩:=gd e;exact ee g rfl (hr x (by simp) v Q)
 case pick c x y=>
  split at e
  . rename_i K;obtain⟨v,Q,rfl⟩:=gd e;have rc:=hr c (by simp) _ K;simp only[dQ]at rc;exact ee g (by simp[rc,asBool]) (hr x (by simp) v Q)
  . rename_i K;obtain⟨v,Q,rfl⟩:=gd e;have rc:=hr c (by simp) _ K;simp only[dQ]at rc;exact ee g (by simp[rc,asBool]) (hr y (by simp) v Q)
  . cases e
 case alloc t=>
  split at e
  . rename_i z hz;split at e
    . rename_i h' n' ho;obtain rfl:=eB e;exact Nz g hn hz ho
    . cases e
  . cases e
 case box t x=>
  split at e
  . rename_i v hv;split at e
    . rename_i h' n' ho;obtain rfl:=eB e;exact Vf g hn (hr x (by simp) v hv) ho
    . cases e
  . cases e
 case build t parts=>
  split at e
  . rename_i ps EN;obtain⟨v,Q,rfl⟩:=gd e;have hp:=sH (E:=E) (ρ:=ρ) parts.toList ps (fun x H=>hr x (by simpa using H)) EN;have hq:zT E ps (parts.map fun(i,x)=>(i,ρ x)).toList:=by simpa using hp
    obtain⟨v',q1,q2⟩:=LM (P:=P) (w:=w) hq Q;refine ee g (v':=v') ?_ q2;simp only[Sem.run_bind,q1,Result.andThen_ok,Sem.run_pure]
  . cases e
 case buildSlice t len parts=>
  split at e
  . rename_i ps EN;have hp:=sH (E:=E) (ρ:=ρ) parts.toList ps (fun x H=>hr x (by simpa using H)) EN;have hq:zT E ps (parts.map fun(i,x)=>(i,ρ x)).toList:=by simpa using hp
    have:=Db (P:=P) (w:=w) (t:=t) (len:=len) g hn hq e;exact this
  . cases e
 case load t x=>
  split at e
  . rename_i v hv;obtain⟨u,Q,rfl⟩:=gd e;exact Rv g (hr x (by simp) v hv) Q
  . cases e
 case store t x y=>
  split at e
  . rename_i a v ha hv;split at e
    . rename_i h' hs;obtain rfl:=eB e;exact NB g (hr x (by simp) a ha) (hr y (by simp) v hv) hs
    . cases e
  . cases e
 case nilCheck x=>
  split at e
  . rename_i p hv;obtain rfl:=eB e;have H:=hr x (by simp) _ hv;obtain⟨b,s,q1,q2⟩:=H;rw[q2];exact ee g (v':=.pointer (some ⟨b,s+p.2,none⟩)) rfl ⟨b,s,q1,rfl⟩
  . rename_i T hv;obtain rfl:=eB e;have H:=hr x (by simp) _ hv;obtain⟨b,o,c,vs,q1,q2⟩:=H;rw[q1];exact ee g (v':=.pointer (some ⟨b,o,none⟩)) rfl ⟨b,o,c,vs,rfl,q2⟩
  . rename_i f a c hv;obtain rfl:=eB e;have H:=hr x (by simp) _ hv;obtain⟨f',a',c',q0,q1,q2,q3⟩:=H;simp only[zQ]at q0;subst q0;rw[q3];exact ee g (v':=.func (.func f) a'.toArray c'.toArray) rfl ⟨_,a',c',rfl,q1,q2,rfl⟩
  . rename_i t v hv;obtain rfl:=eB e;have H:=hr x (by simp) _ hv;obtain⟨y,q1,q2⟩:=H;rw[q2];exact ee g (v':=.iface t y) rfl ⟨y,q1,rfl⟩
  . cases e
 case binOp op t x y yt=>
  split at e
  . rename_i a b ha hb;obtain⟨u,Q,rfl⟩:=gd e;exact NI g (hr x (by simp) a ha) (hr y (by simp) b hb) Q
  . cases e
 case unOp op t x=>
  split at e
  . rename_i v hv;obtain⟨u,Q,rfl⟩:=gd e;exact Rx g (hr x (by simp) v hv) Q
  . cases e
 case convert s d x=>
  split at e
  . rename_i v hv;exact IU g hn (hr x (by simp) v hv) e
  . cases e
 case makeInterface t x=>
  split at e
  . rename_i v d hv hu;split at e
    . cases e
    . rename_i hd;obtain rfl:=eB e;have H:=hr x (by simp) v hv;refine ee g (v':=.iface t (ρ x)) ?_ ⟨ρ x,H,rfl⟩;simp only[Instr.makeInterface,Sem.run_bind,dL hu,Result.andThen_ok];cases d<;>first|(exact absurd rfl (hd _))|rfl
  . cases e
 case makeFunc f first captured=>
  split at e
  . rename_i a c ha K;split at e
    case isFalse=>cases e
    rename_i hny;obtain rfl:=eB e;have hfn:zQ E f f:=by cases f<;>first|rfl|cases hny
    have r1:=uo (E:=E) (ρ:=ρ) first.toList a (fun x H=>hr x (by simp at H ⊢;exact .inl H)) ha
    have r2:=uo (E:=E) (ρ:=ρ) captured.toList c (fun x H=>hr x (by simp at H ⊢;exact .inr H)) K;refine ee g (v':=.func f (first.map ρ) (captured.map ρ)) rfl ⟨f,first.toList.map ρ,captured.toList.map ρ,hfn,r1,r2,?_⟩;congr 1<;>(apply Array.ext';simp)
  . cases e
 case makeMap t res=>
  cases res with
  |some _=>simp at e
  |none=>
   simp only at e;split at e
   . rename_i h' n' ho;obtain rfl:=eB e;exact IY g hn ho
   . cases e
 case makeSlice t l c=>
  split at e
  . rename_i lv cv hl K;exact EJ g hn (hr l (by simp) lv hl) (hr c (by simp) cv K) e
  . cases e
 case slice t x lo hi mx=>
  split at e
  . rename_i v lov hiv mxv hv CT LZ hmx;obtain⟨u,Q,rfl⟩:=gd e;refine NM g (hr x (by simp) v hv) (we (fun y hy=>hr y ?_) CT) (we (fun y hy=>hr y ?_) LZ) (we (fun y hy=>hr y ?_) hmx) Q
    . subst hy;simp
    . subst hy;simp
    . subst hy;simp
  . cases e
 case fieldAddr t x f=>
  split at e
  . rename_i v hv;obtain⟨u,Q,rfl⟩:=gd e;exact EF g (hr x (by simp) v hv) Q
  . cases e
 case field t x f=>
  split at e
  . rename_i v hv;obtain⟨u,Q,rfl⟩:=gd e;exact NJ g (hr x (by simp) v hv) Q
  . cases e
 case indexAddr t x i=>
  split at e
  . rename_i v iv hv hi;obtain⟨u,Q,rfl⟩:=gd e;exact EG g (hr x (by simp) v hv) (hr i (by simp) iv hi) Q
  . cases e
 case index t x i=>
  split at e
  . rename_i v iv hv hi;obtain⟨u,Q,rfl⟩:=gd e;exact NK g (hr x (by simp) v hv) (hr i (by simp) iv hi) Q
  . cases e
 case lookup t x k ok=>
  split at e
  . rename_i v kv hv Y;obtain⟨u,Q,rfl⟩:=gd e;exact LX g (hr x (by simp) v hv) (hr k (by simp) kv Y) Q
  . cases e
 case mapUpdate t m k v=>
  split at e
  . rename_i mv kv vv S Y hv;exact xM g (hr m (by simp) mv S) (hr k (by simp) kv Y) (hr v (by simp) vv hv) e
  . cases e
 case insert t m k v=>
  split at e
  . rename_i mv kv vv S Y hv;exact xM g (hr m (by simp) mv S) (hr k (by simp) kv Y) (hr v (by simp) vv hv) e
  . cases e
 case mapEntry t m k=>
  split at e
  . rename_i mv kv S Y;exact GJ g (hr m (by simp) mv S) (hr k (by simp) kv Y) e
  . cases e
 case entryStore t m s v=>
  split at e
  . rename_i mv sv vv S hs hv;exact Dj g (hr m (by simp) mv S) (hr s (by simp) sv hs) (hr v (by simp) vv hv) e
  . cases e
 case range t x=>
  split at e
  . rename_i v hv;exact NU g hn (hr x (by simp) v hv) e
  . cases e
 case next it b=>
  split at e
  . rename_i v hv;exact RH g (hr it (by simp) v hv) e
  . cases e
 case typeAssert x xt t ok=>
  split at e
  . rename_i v hv;obtain⟨u,Q,rfl⟩:=gd e;exact Df g (hr x (by simp) v hv) Q
  . cases e
 case extract x i=>
  split at e
  . rename_i vs hv;obtain⟨u,Q,rfl⟩:=gd e;exact IS g (hr x (by simp) _ hv) Q
  . cases e
 case panic x=>
  split at e
  . rename_i t v hv;obtain rfl:=eB e;obtain⟨y,q1,q2⟩:=hr x (by simp) _ hv;refine⟨.iface t y,?_,y,q1,rfl⟩;rw[q2];simp[Instr.panic]
  . cases e
 case call c=>exact IZ g hn hr e
 case defer c=>exact GL hr e
 all_goals (cases e)
end
def wh(E:Env)(F:I V)(a:Act):Prop:=∀t v,F.get t=some v->∃v',a.tmps[t]? =some v'/\dQ E v v'
theorem mq{E E':Env}(h:E.le E'){F:I V}{a:Act}(r:wh E F a):wh E' F a:=fun t v e=>let⟨v',Q,R⟩:=r t v e;⟨v',Q,jc h v v' R⟩
section
variable(a:Act){E:Env}(dst:Option Tmp){F:I V}
theorem lQ(v:Value):(a.put dst v).tmps.size=a.tmps.size:=by cases dst<;>simp[Act.put]
theorem jA(v:Value):(a.put dst v).defers=a.defers:=by cases dst<;>rfl
def mU(n0:Nat)(dst:Option Tmp):Prop:=∀d,dst=some d->d<n0
theorem n8{Ze:I V}{a:Act}{dst:Option Tmp}{v:V}{v':Value}(r:wh E F a)(e:jn F dst v=some Ze)(hv:dQ E v v')(hd:mU a.tmps.size dst):wh E Ze (a.put dst v'):=by
 cases dst with
 |none=>simp only[jn,aq]at e;subst e;exact r
 |some d=>
  simp only[jn]at e;split at e
  . rename_i ht;obtain rfl:=eB e;intro t x H;rw[I.fF _ _ _ ht]at H;have eM:=hd d rfl;by_cases q:t=d
    . subst q;rw[aE rfl]at H;cases H;exact⟨v',by simp[Act.put,eM],hv⟩
    . rw[aB q]at H;obtain⟨y,Q,R⟩:=r t x H;exact⟨y,by simp[Act.put,Ne.symm q,Q],R⟩
  . cases e
theorem mV{a:Act}(ge:GE E)(r:wh E F a)(x:Operand):mS E F a.eval x:=by
 intro v e;cases x with
 |tmp t=>obtain⟨v',Q,R⟩:=r t v e;simp only[Act.eval,bG,Q];exact R
 |const c=>exact yO e
 |func f=>simp only[iK,aq]at e;subst e;exact⟨_,[],[],rfl,rfl,rfl,rfl⟩
 |global g=>exact Gk ge e
end
theorem wj{E:Env}{ops:Array Oper}{o:Oper}{F:I V}{a:Act}{b:Bool}(r:∀j Ex q d,o.guard=some (j,Ex)->ops[j]? =some q->q.dst=some d->∀v,F.get d=some v->∃v',a.tmps[d]? =some v'/\dQ E v v')(e:fP ops o F=some b):
  Region.wanted o (yielded ops a.tmps)=b:=by
 unfold fP at e;unfold Region.wanted;cases hg:o.guard with
 |none=>simp only[hg,aq]at e ⊢;exact e
 |some p=>
  obtain⟨j,Ex⟩:=p;simp only[hg]at e ⊢;cases hj:ops[j]? with
  |none=>simp[hj]at e
  |some q=>
   simp only[hj]at e;cases hd:q.dst with
   |none=>simp[hd]at e
   |some d=>
    simp only[hd]at e;cases hf:F.get d with
    |none=>simp[hf]at e
    |some v=>
     obtain⟨v',Q,R⟩:=r j Ex q d hg hj hd v hf;have hy:yielded ops a.tmps j=(match(some v':Option Value)with|some (.bool b)=>some b|_=>none):=by
      unfold yielded;rw[hj];simp only[Option.bind_some,hd,Q];cases v'<;>rfl
     cases v with
     |bool b0=>
      simp only[hf,aq]at e;simp only[dQ]at R;subst R;rw[hy,<- e];cases b0<;>cases Ex<;>rfl
     |gC vs=>
      cases vs with
      |nil=>
       simp only[hf,aq]at e;obtain⟨l,hl,rfl⟩:=R;rw[hy,<- e];rfl
      |cons _ _=>simp[hf]at e
     |_=>simp[hf]at e
def pH(E:Env)(n:Nat):Prop:=∀m,n<=m->E.ι m=none
def wm(E:Env):pn->Ending->Prop
 | .ret v,.returned v'=>dQ E v v'
 | .ni v,.panicked chain=>∃v',dQ E v v'/\chain=[{ v:=v',recovered:=false }]
 |_,_=>False
def fz(h2:Option Nat):Fence:={ Fence.wide with round:=h2 }
def iC(E:Env)(h:I O)(n:Nat)(w:World)(rZ:pn)(h':I O)(n':Nat)(e:Ending)(w':World):Prop:=
 ∃E',iL E h w E' h' w'/\(∀m,m<n->E'.ι m=E.ι m)/\pH E' n'/\n<=n'/\wm E' rZ e
def gq(P:Program)(cf:fL):Prop:=∀f args h n rZ h' n',cf f args h n=some (rZ,h',n')->∀E w dF,dV E args dF->Good E h w->pH E n->
 (callee P f=true->Calls P f dF.toArray w (iC E h n w rZ h' n'))/\
 (∀m l s,f=P.funcs.size+m->E.ι m=some (l,s)->YieldAt Fence.wide 0 P l dF.toArray w (iC E h n w rZ h' n'))
theorem uq{h2:Option Nat}{ρ:Operand->Value}{o:Oper}(h:∀c,o.op≠ .defer c):Oper.semAt h2 ρ o=execOp ρ o:=by
 cases h2 with
 |none=>exact Oper.semAt_none ..
 |some l=>exact Oper.semAt_some l ρ o h
theorem I0{F:I V}{c:Call}{r:h2}(e:Bv F c=some r):∃f a b,r= .tL f a b:=by
 unfold Bv at e;split at e
 . split at e
   . split at e
     . simp only[aq]at e;exact⟨_,_,_,e.symm⟩
     . cases e
   . cases e
 . cases e
section
variable{P:Program}{E:Env}{h h':I O}{n n':Nat}{w:World}{F:I V}{a:Act}{o:Oper}{hc:Act->World->Prop}{h1:Exit->Act->World->Prop}{qU:Option Nat}
theorem yV{r:h2}(e:dO P o F h n=some r)(hr:∀f a b,r≠ .tL f a b):∀c,o.op≠ .defer c:=by
 intro c K;simp only[dO,K]at e;obtain⟨f,x,y,q⟩:=I0 e;exact hr f x y q
theorem EO{v:V}(g:Good E h w)(hn:E.ι n=none)(hr:∀x∈o.op.operands,mS E F a.eval x)(e:dO P o F h n=some (.val v h' n'))
  (Y:∀E' w' v',dQ E' v v'->iL E h w E' h' w'->(∀m,m≠n->E'.ι m=E.ι m)->((n'=n/\E'=E)\/n'=n+1)->hc (a.put o.dst v') w'):o.wpIn (fz qU) 0 P a w hc h1:=by
 obtain⟨E',w',v',gi,Q,R,h3,h4⟩:=nJ g hn hr e;refine⟨fun _ _=>trivial,?_⟩;rw[uq (yV e fun _ _ _=>by simp)];rcases gi with gi|⟨gi,rfl⟩
 . rw[gi,Oper.uponIn_value];exact Y E' w' v' Q R h3 h4
 . rw[gi,Oper.uponIn_skip];exact Y E' w' undef Q R h3 h4
theorem AT{cf:fL}{f:FuncId}{args:ag}{rZ:pn}(lA:gq P cf)(g:Good E h w)(hn:pH E n)(hr:∀x∈o.op.operands,mS E F a.eval x)
  (e:dO P o F h n=some (.call f args)) (ec:cf f args h n=some (rZ,h',n'))
  (Y:∀E' w',iL E h w E' h' w'->(∀m,m<n->E'.ι m=E.ι m)->pH E' n'->n<=n'->
   match rZ with
   | .ret v=>∀v',dQ E' v v'->hc (a.put o.dst v') w'
   | .ni v=>∀v',dQ E' v v'->h1 (.panic [{ v:=v',recovered:=false }]) a w'):o.wpIn (fz qU) 0 P a w hc h1:=by
 obtain⟨dF,Q,gi⟩:=nJ g (hn n (aK _)) hr e;refine⟨fun _ _=>trivial,?_⟩;rw[uq (yV e fun _ _ _=>by simp)];have pJ:∀en w',iC E h n w rZ h' n' en w'->(match en,w' with
  | .returned v,Z8=>hc (a.put o.dst v) Z8
  | .panicked chain,Z8=>h1 (.panic chain) a Z8
  | .outgrown,_=>LetsOut h1):=fun en w' ⟨E',u1,u2,u3,u4,u5⟩=>by
  have:=Y E' w' u1 u2 u3 u4;cases rZ with
  |ret v=>cases en with
   |returned v'=>exact this v' u5
   |panicked _=>exact u5.elim
   |outgrown=>exact u5.elim
  |ni v=>cases en with
   |returned v'=>exact u5.elim
   |panicked chain=>obtain⟨v',q1,rfl⟩:=u5;exact this v' q1
   |outgrown=>exact u5.elim
 rcases gi with⟨gi,R⟩|⟨m,l,s,R,h3,gi⟩
 . rw[gi,Oper.uponIn_enter];have K:CallsIn Fence.wide (0-1) P f dF.toArray w _:=callsIn_wide.2 (((lA f args h n rZ h' n' ec E w dF Q g hn).1 R).mono pJ);exact⟨fun hd=>by simp[fz,Fence.wide]at hd,K⟩
 . obtain⟨fn,tmps,assign,body,q1,q2⟩:=(lA f args h n rZ h' n' ec E w dF Q g hn).2 m l s R h3;rw[gi,q1,Oper.uponIn_round];have K:RoundIn Fence.wide (0-1) P l fn tmps assign body w _:=q2.mono pJ;exact⟨fun hd=>by simp[fz,Fence.wide]at hd,K⟩
theorem NV{v:V}(g:Good E h w)(hn:E.ι n=none)(hr:∀x∈o.op.operands,mS E F a.eval x)(e:dO P o F h n=some (.panic v))
  (Y:∀v',dQ E v v'->h1 (.panic [{ v:=v',recovered:=false }]) a w):o.wpIn (fz qU) 0 P a w hc h1:=by
 obtain⟨v',gi,Q⟩:=nJ g hn hr e;refine⟨fun _ _=>trivial,?_⟩;rw[uq (yV e fun _ _ _=>by simp)];rw[gi,Oper.uponIn_panic];exact Y v' Q
theorem Vt{f:FuncId}{c args:ag}(Z9:qU=none)(g:Good E h w)(hn:E.ι n=none)(hr:∀x∈o.op.operands,mS E F a.eval x)(e:dO P o F h n=some (.tL f c args))
  (Y:∀c' dF,dV E c c'->dV E args dF->hc ({ a with defers:={ target:=.fn (.func f) c'.toArray,args:=dF.toArray }::a.defers }.put o.dst undef) w):o.wpIn (fz qU) 0 P a w hc h1:=by
 subst Z9;obtain⟨c',dF,gi,Q,R⟩:=nJ g hn hr e;refine⟨fun _ _=>trivial,?_⟩;show o.uponIn (fz none) 0 P a hc h1 ((Oper.semAt none a.eval o).run P w);rw[Oper.semAt_none,gi,Oper.uponIn_defer];exact Y c' dF Q R
end
def Sub(x y:I O):Prop:=∀k b,x.get k=some b->y.get k=some b
section
variable{P:Program}{F:I V}{x:I O}{n:Nat}
theorem GM{o:Oper}{r:h2}(hp:ox o.op=true)(e:dO P o F x n=some r):∃v,r= .val v x n/\∀(y:I O) (k:Nat),dO P o F y k=some (.val v y k):=by
 obtain⟨dst,op,ty,pos,after,guard⟩:=o;simp only at hp;cases op<;>simp only[ox]at hp<;>first|(cases hp;done)|skip
 all_goals simp only[dO]at e
 case move a=>obtain⟨v,Q,rfl⟩:=gd e;exact⟨v,rfl,fun y k=>by simp only[dO,Q,kx]⟩
 case assign a=>obtain⟨v,Q,rfl⟩:=gd e;exact⟨v,rfl,fun y k=>by simp only[dO,Q,kx]⟩
 case pick c a b=>
  split at e
  . rename_i K;obtain⟨v,Q,rfl⟩:=gd e;exact⟨v,rfl,fun y k=>by simp only[dO,K,Q,kx]⟩
  . rename_i K;obtain⟨v,Q,rfl⟩:=gd e;exact⟨v,rfl,fun y k=>by simp only[dO,K,Q,kx]⟩
  . cases e
 case build t parts=>
  split at e
  . rename_i ps K;obtain⟨v,Q,rfl⟩:=gd e;exact⟨v,rfl,fun y k=>by simp only[dO,K,Q,kx]⟩
  . cases e
 case nilCheck a=>
  split at e
  . rename_i p K;obtain rfl:=eB e;exact⟨_,rfl,fun y k=>by simp only[dO,K]⟩
  . rename_i K;obtain rfl:=eB e;exact⟨_,rfl,fun y k=>by simp only[dO,K]⟩
  . rename_i K;obtain rfl:=eB e;exact⟨_,rfl,fun y k=>by simp only[dO,K]⟩
  . rename_i t v K;obtain rfl:=eB e;exact⟨_,rfl,fun y k=>by simp only[dO,K]⟩
  . cases e
 case binOp op t a b yt=>
  split at e
  . rename_i u w Q R;obtain⟨v,h3,rfl⟩:=gd e;exact⟨v,rfl,fun y k=>by simp only[dO,Q,R,h3,kx]⟩
  . cases e
 case unOp op t a=>
  split at e
  . rename_i u Q;obtain⟨v,h3,rfl⟩:=gd e;exact⟨v,rfl,fun y k=>by simp only[dO,Q,h3,kx]⟩
  . cases e
 case makeInterface t a=>
  split at e
  . rename_i v d Q R;split at e
    . cases e
    . rename_i hd;obtain rfl:=eB e;refine⟨_,rfl,fun y k=>?_⟩;simp only[dO,Q,R]
  . cases e
 case makeFunc f a c=>
  split at e
  . rename_i u w Q R;split at e
    case isFalse=>cases e
    rename_i hny;obtain rfl:=eB e;exact⟨_,rfl,fun y k=>by simp only[dO,Q,R,hny,if_true]⟩
  . cases e
 case fieldAddr t a f=>
  split at e
  . rename_i u Q;obtain⟨v,h3,rfl⟩:=gd e;exact⟨v,rfl,fun y k=>by simp only[dO,Q,h3,kx]⟩
  . cases e
 case field t a f=>
  split at e
  . rename_i u Q;obtain⟨v,h3,rfl⟩:=gd e;exact⟨v,rfl,fun y k=>by simp only[dO,Q,h3,kx]⟩
  . cases e
 case indexAddr t a i=>
  split at e
  . rename_i u w Q R;obtain⟨v,h3,rfl⟩:=gd e;exact⟨v,rfl,fun y k=>by simp only[dO,Q,R,h3,kx]⟩
  . cases e
 case index t a i=>
  split at e
  . rename_i u w Q R;obtain⟨v,h3,rfl⟩:=gd e;exact⟨v,rfl,fun y k=>by simp only[dO,Q,R,h3,kx]⟩
  . cases e
 case typeAssert a s t ok=>
  split at e
  . rename_i u Q;obtain⟨v,h3,rfl⟩:=gd e;exact⟨v,rfl,fun y k=>by simp only[dO,Q,h3,kx]⟩
  . cases e
 case extract a i=>
  split at e
  . rename_i vs Q;obtain⟨v,h3,rfl⟩:=gd e;exact⟨v,rfl,fun y k=>by simp only[dO,Q,h3,kx]⟩
  . cases e
section
variable{t:TypeId}{o:Oper}{a:V}{r:h2}
theorem GN{v:V}{y:I O}(hs:Sub x y)(e:loadAt P t x a=some v):loadAt P t y a=some v:=by
 unfold loadAt at e ⊢;split at e
 . rename_i m o;split at e
   . rename_i T S;simp only[hs m _ S];exact e
   . rename_i k ks S;simp only[hs m _ S];exact e
   . rename_i k ks S;simp only[hs m _ S];exact e
   . rename_i T S;simp only[hs m _ S];exact e
   . rename_i cs self x0 S;simp only[hs m _ S];exact e
   . cases e
 . exact e
 . cases e
theorem EP{m k:Nat}{y:I O}(hs:Sub x y)(e:xh x m k=true):xh y m k=true:=by
 unfold xh at e ⊢;split at e
 . rename_i T S;simp only[hs m _ S];exact e
 . cases e
theorem GO{v:V}{lo hi mx:Option V}{y:I O}(hs:Sub x y)(e:lY P t x a lo hi mx=some v):lY P t y a lo hi mx=some v:=by
 unfold lY at e ⊢;split at e
 . cases e
 . rename_i h0;rw[aB h0];split at e
   . exact e
   . exact e
   . exact e
   . rename_i nn el b o hu;cases Q:kf P el with
     |none=>simp[Q]at e
     |some s=>cases R:eT nn nn mx with
      |none=>simp[Q,R]at e
      |some m=>cases h3:eT nn m hi with
       |none=>simp[Q,R,h3]at e
       |some hh=>cases h4:eT 0 hh lo with
        |none=>simp[Q,R,h3,h4]at e
        |some l=>
         simp only[Q,R,h3,h4]at e ⊢;split at e
         . rename_i hq;rw[aE ⟨hq.1,hq.2.1,EP hs hq.2.2⟩];exact e
         . cases e
   . cases e
theorem ER{k v:V}{ok:Bool}{y:I O}(hs:Sub x y)(e:uU P t x a k ok=some v):uU P t y a k ok=some v:=by
 unfold uU at e ⊢;split at e
 . split at e
   . cases a with
     |map m=>
      cases m with
      |none=>exact e
      |some m=>
       simp only[V.Ua]at e ⊢;cases S:x.get m with
       |none=>simp[S]at e
       |some o=>
        have hy:=hs m o S;rw[hy];rw[S]at e;cases o with
        |gh kk X=>exact e
        |_=>simp only[hy];simp only[S]at e;exact e
     |_=>exact e
   . cases e
 . cases e
theorem L0{ts:Array TypeId}{as:ag}{v:V}{y:I O}(hs:Sub x y)(e:LI P ts as x=some v):LI P ts as y=some v:=by
 unfold LI at e ⊢;split at e
 . split at e
   . exact e
   . exact e
   . exact e
   . exact e
   . exact e
   . rename_i m hu;cases S:x.get m with
     |none=>simp[S]at e
     |some o=>
      simp only[hs m o S];simp only[S]at e;exact e
   . cases e
 . cases e
theorem I1{o:O}{p:I O×Nat}(e:newObj x n o=some p)(y:I O):n<fV/\p=(x.set n (some o),n+1)/\newObj y n o=some (y.set n (some o),n+1):=by
 obtain⟨h',n'⟩:=p;obtain⟨Q,rfl,rfl⟩:=kG e;exact⟨Q,rfl,by simp[newObj,Q]⟩
def ur(P:Program)(o:Oper)(F:I V)(x:I O)(n:Nat)(r:h2):Prop:=
 (∃v,r= .val v x n/\∀y,Sub x y->dO P o F y n=some (.val v y n)) \/
 (∃v b,n<fV/\r= .val v (x.set n (some b)) (n+1)/\∀y,dO P o F y n=some (.val v (y.set n (some b)) (n+1)))
theorem ur.alloc{ob:O}{v:V}{h':I O}{n':Nat}(e:newObj x n ob=some (h',n'))(k:∀(y R:I O) (m:Nat),newObj y n ob=some (R,m)->dO P o F y n=some (.val v R m)):ur P o F x n (.val v h' n'):=by
 obtain⟨Q,rfl,rfl⟩:=kG e;exact .inr ⟨v,ob,Q,rfl,fun y=>k y _ _ (I1 e y).2.2⟩
theorem Dk(hp:ox o.op=true)(e:dO P o F x n=some r):ur P o F x n r:=by
 obtain⟨v,Q,R⟩:=GM hp e;exact .inl ⟨v,Q,fun y _=>R y n⟩
theorem quiet(hq:pq o.op=false)(e:dO P o F x n=some r):ur P o F x n r:=by
 by_cases hp:ox o.op=true
 . exact Dk hp e
 have e0:=e;obtain⟨dst,op,ty,pos,after,guard⟩:=o;simp only at hq hp;cases op<;>simp only[pq]at hq<;>first|(cases hq;done)|skip
 all_goals first|(exact absurd rfl hp)|skip
 all_goals simp only[dO]at e
 case alloc t=>
  split at e
  . rename_i z hz;split at e
    . rename_i h' n' ho;obtain rfl:=eB e;exact ur.alloc ho fun y R m q=>by simp only[dO,hz,q]
    . cases e
  . cases e
 case box t a=>
  split at e
  . rename_i v hv;split at e
    . rename_i h' n' ho;obtain rfl:=eB e;exact ur.alloc ho fun y R m q=>by simp only[dO,hv,q]
    . cases e
  . cases e
 case buildSlice t len parts=>
  split at e
  . rename_i ps EN;unfold nW at e;split at e
    . rename_i el he;split at e
      . rename_i s z hs hz;split at e
        . rename_i K;split at e
          . rename_i T hf;split at e
            . rename_i h' n' ho;obtain rfl:=eB e;exact ur.alloc ho fun y R m q=>by
               simp only[dO,EN,nW,he,hs,hz];rw[aE K];simp only[hf,q]
            . cases e
          . cases e
        . cases e
      . cases e
    . cases e
  . cases e
 case load t a=>
  split at e
  . rename_i v hv;obtain⟨u,Q,rfl⟩:=gd e;exact .inl ⟨u,rfl,fun y hs=>by simp only[dO,hv,GN hs Q,kx]⟩
  . cases e
 case convert s d a=>
  split at e
  . rename_i v hv;unfold oD at e;split at e
    . rename_i Q R;obtain rfl:=eB e;exact .inl ⟨_,rfl,fun y hs=>by simp only[dO,hv,oD,Q,R]⟩
    . rename_i Q R;obtain rfl:=eB e;exact .inl ⟨_,rfl,fun y hs=>by simp only[dO,hv,oD,Q,R]⟩
    . rename_i Q R;obtain rfl:=eB e;exact .inl ⟨_,rfl,fun y hs=>by simp only[dO,hv,oD,Q,R]⟩
    . rename_i Q R;split at e
      . rename_i h3;split at e
        . rename_i h' n' ho;obtain rfl:=eB e;exact ur.alloc ho fun y DL m q=>by simp only[dO,hv,oD,Q,R,h3,q]
        . cases e
      . cases e
    . rename_i Q R;split at e
      . rename_i h3;obtain rfl:=eB e;exact .inl ⟨_,rfl,fun y hs=>by simp only[dO,hv,oD,Q,R,h3]⟩
      . cases e
    . rename_i Q R;split at e
      . rename_i h3;obtain rfl:=eB e;exact .inl ⟨_,rfl,fun y hs=>by simp only[dO,hv,oD,Q,R,h3]⟩
      . cases e
    . rename_i Q R;split at e
      . rename_i h3;split at e
        . rename_i h4;have key:∀y:I O,Sub x y->∀m,zP (x.get m)=zP (y.get m)\/x.get m=none:=fun y hs m=>by
           cases S:x.get m with
           |none=>exact .inr rfl
           |some o=>rw[hs m o S];exact .inl rfl
          have aaa:∀y:I O,Sub x y->∀m,tV (x.get m)=tV (y.get m)\/x.get m=none:=fun y hs m=>by
           cases S:x.get m with
           |none=>exact .inr rfl
           |some o=>rw[hs m o S];exact .inl rfl
          rename_i m0 o0 asL _ _ _;split at e
          . rename_i s0 IQ;split at e
            . rename_i hl;obtain rfl:=eB e;refine .inl ⟨_,rfl,fun y hs=>?_⟩;simp only[dO,hv,oD,Q,R,h3];rw[aE h4];rcases aaa y hs m0 with q|q
              . rw[<- q,IQ];simp only[aE hl]
              . rw[q]at IQ;cases IQ
            . cases e
          . rename_i af7;split at e
            . rename_i ks ES;split at e
              . rename_i hl;obtain rfl:=eB e;refine .inl ⟨_,rfl,fun y hs=>?_⟩;simp only[dO,hv,oD,Q,R,h3];rw[aE h4];rcases aaa y hs m0 with q|q
                . rw[<- q,af7];rcases key y hs m0 with q|q
                  . rw[<- q,ES];simp only[aE hl]
                  . rw[q]at ES;cases ES
                . rw[q]at ES;cases ES
              . cases e
            . rename_i ES;split at e
              . obtain rfl:=eB e;refine .inl ⟨_,rfl,fun y hs=>?_⟩;simp only[dO,hv,oD,Q,R,h3];rw[aE h4];cases tV (y.get m0)with
                |some s0=>simp
                |none=>
                 cases zP (y.get m0)with
                 |none=>rfl
                 |some ks=>simp[ir]
              . split at e
                . rename_i T S;split at e
                  . rename_i bs K;split at e
                    . rename_i A ht;obtain rfl:=eB e;refine .inl ⟨_,rfl,fun y hs=>?_⟩;simp only[dO,hv,oD,Q,R,h3];rw[aE h4];simp only[hs _ _ S,tV,zP,K,ht]
                    . cases e
                  . cases e
                . cases e
        . cases e
      . cases e
    . cases e
  . cases e
 case makeMap t res=>
  cases res with
  |some _=>simp at e
  |none=>
   simp only at e;split at e
   . rename_i h' n' ho;obtain rfl:=eB e;exact ur.alloc ho fun y R m q=>by simp only[dO,q]
   . cases e
 case makeSlice t l c=>
  split at e
  . rename_i lv cv Q R;unfold nu at e;split at e
    . rename_i el k l0 k' c0 he;split at e
      . rename_i i z h3 h4;simp only at e;split at e
        . rename_i K;split at e
          . rename_i h' n' ho;obtain rfl:=eB e;exact ur.alloc ho fun y DL m q=>by
             simp only[dO,Q,R,nu,he,h3,h4];rw[aE K];simp only[q]
          . cases e
        . cases e
      . cases e
    . cases e
  . cases e
 case slice t a lo hi mx=>
  split at e
  . rename_i v lov hiv mxv Q R h3 h4;obtain⟨u,h5,rfl⟩:=gd e;exact .inl ⟨u,rfl,fun y hs=>by simp only[dO,Q,R,h3,h4,GO hs h5,kx]⟩
  . cases e
 case lookup t a k ok=>
  split at e
  . rename_i v kv Q R;obtain⟨u,h5,rfl⟩:=gd e;exact .inl ⟨u,rfl,fun y hs=>by simp only[dO,Q,R,ER hs h5,kx]⟩
  . cases e
 case range t a=>
  split at e
  . rename_i v hv;unfold Bu at e;split at e
    . rename_i s hu;split at e
      . rename_i h' n' ho;obtain rfl:=eB e;exact ur.alloc ho fun y DL m q=>by simp only[dO,hv,Bu,hu,q]
      . cases e
    . cases e
  . cases e
 case call c=>
  obtain⟨cal,args,ats⟩:=c;cases cal with
  |value f=>simp at hq
  |invoke f m=>simp at hq
  |builtin b=>
   simp only[vC]at e;split at e
   . rename_i as ha;cases b<;>simp only[]at hq<;>first|(cases hq;done)|skip
     . simp only[kQ]at e;obtain⟨u,h5,rfl⟩:=gd e;exact .inl ⟨u,rfl,fun y hs=>by simp only[dO,vC,ha,kQ,L0 hs h5,kx]⟩
     . simp only[kQ]at e;split at e
       . obtain⟨u,h5,rfl⟩:=gd e;exact .inl ⟨u,rfl,fun y hs=>by simp only[dO,vC,ha,kQ,h5,kx]⟩
       . cases e
     . simp only[kQ]at e;split at e
       . obtain⟨u,h5,rfl⟩:=gd e;exact .inl ⟨u,rfl,fun y hs=>by simp only[dO,vC,ha,kQ,h5,kx]⟩
       . cases e
   . cases e
 all_goals (cases e)
end
end
theorem BQ(l:List Oper)(o:Oper):oF (l++[o])=oF l++[fb (oF l) o.after.toList]:=by simp[oF]
theorem vH:∀(l:List Oper) (DG:List Nat),(l.foldl (fun DG o=>DG++[fb DG o.after.toList]) DG).length=DG.length+l.length
 | [],DG=>by simp
 |o::l,DG=>by simp only[List.foldl_cons];rw[vH l];simp;omega
theorem ET(l:List Oper):(oF l).length=l.length:=by unfold oF;rw[vH];simp
def iD(ops:Array Oper)(j:Nat):Nat:=match ops[j]? with
 |some o=>fb (oF (ops.toList.take j)) o.after.toList
 |none=>0
theorem DP{α:Type}{l:List α}{i:Nat}{o:α}(h:l[i]? =some o):l.take (i+1)=l.take i++[o]:=by
 rw[b9,h];rfl
theorem mW(ops:Array Oper):∀i,i<=ops.size->∀k,k<i->(oF (ops.toList.take i)).getD k 0=iD ops k
 |0,_,k,Y=>by omega
 |i+1,hi,k,Y=>by
  have ho:ops.toList[i]? =some ops[i]:=by rw[bJ];exact aZ G
  rw[DP ho,BQ];have hl:(oF (ops.toList.take i)).length=i:=by rw[ET];simp;omega
  by_cases q:k<i
  . rw[ax,bB G,<- ax];exact mW ops i G k q
  . have:k=i:=by omega
    subst this;rw[ax,cM G,hl];simp only[Nat.sub_self,cG,b7];unfold iD;rw[<- bJ,ho]
theorem yW(a b i:Nat):ek (a|||b) i=(ek a i||ek b i):=Nat.testBit_or a b i
theorem BR(k i:Nat):ek (2^k) i=decide (k=i):=Nat.testBit_two_pow
theorem jb(i:Nat):ek 0 i=false:=Nat.zero_testBit i
theorem wo(eA:List Nat)(k:Nat):∀X:List Edge,ek (fb eA X) k=true↔∃e∈X,Region.binds .any e=true/\(e.on=k\/ek (eA.getD e.on 0) k=true)
 | []=>by simp[fb,jb]
 |e::X=>by
  simp only[fb];by_cases hb:Region.binds .any e=true
  . rw[aE hb,yW,yW,BR,bV,bV,wo eA k X];simp only[aX,aD];constructor
    . rintro(⟨x,Q,R,h3⟩|h|h)
      . exact⟨x,.inr Q,R,h3⟩
      . exact⟨e,.inl rfl,hb,.inl h⟩
      . exact⟨e,.inl rfl,hb,.inr h⟩
    . rintro⟨x,rfl|Q,R,h3⟩
      . exact .inr h3
      . exact .inl ⟨x,Q,R,h3⟩
  . rw[aB hb,wo eA k X];simp only[aD];constructor
    . rintro⟨x,Q,R,h3⟩;exact⟨x,.inr Q,R,h3⟩
    . rintro⟨x,rfl|Q,R,h3⟩
      . exact absurd R hb
      . exact⟨x,Q,R,h3⟩
def u7(ops:Array Oper):Prop:=∀(j:Nat) (o:Oper),ops[j]? =some o->∀e∈o.after,Region.binds .any e=true->e.on<j
section
variable{ops:Array Oper}
theorem xN(he:u7 ops){j k:Nat}{o:Oper}(ho:ops[j]? =some o):
  ek (iD ops j) k=true↔∃e∈o.after,Region.binds .any e=true/\(e.on=k\/ek (iD ops e.on) k=true):=by
 have hj:j<ops.size:=(aT.1 ho).1;unfold iD;simp only[ho];rw[wo];constructor
 . rintro⟨e,Q,R,h3⟩;have ot:e∈o.after:=by simpa using Q
   have eM:=he j o ho e ot R;refine⟨e,ot,R,h3.imp id fun q=>?_⟩;rw[mW ops j G e.on eM]at q;exact q
 . rintro⟨e,Q,R,h3⟩;have eM:=he j o ho e Q R;refine⟨e,by simpa using Q,R,h3.imp id fun q=>?_⟩;rw[mW ops j G e.on eM];exact q
theorem I2(he:u7 ops):∀j k,ek (iD ops j) k=true->k<j:=by
 intro j
 induction j using Nat.strongRecOn with
 |_ j ih=>
  intro k h;cases ho:ops[j]? with
  |none=>simp[iD,ho,jb]at h
  |some o=>
   obtain⟨e,Q,R,h3⟩:=(xN he ho).1 h;have eM:=he j o ho e Q R;rcases h3 with rfl|h3
   . exact eM
   . exact Nat.lt_trans (ih e.on eM k h3) eM
theorem DQ(he:u7 ops):∀j i k,ek (iD ops j) i=true->ek (iD ops i) k=true->ek (iD ops j) k=true:=by
 intro j
 induction j using Nat.strongRecOn with
 |_ j ih=>
  intro i k h h';cases ho:ops[j]? with
  |none=>simp[iD,ho,jb]at h
  |some o=>
   obtain⟨e,Q,R,h3⟩:=(xN he ho).1 h;have eM:=he j o ho e Q R;refine(xN he ho).2 ⟨e,Q,R,.inr ?_⟩;rcases h3 with rfl|h3
   . exact h'
   . exact ih e.on eM i k h3 h'
theorem BS(he:u7 ops){hm:Nat->Prop}(hS:∀j o,hm j->ops[j]? =some o->∀e∈o.after,Region.binds .any e=true->hm e.on):
  ∀j k,hm j->ek (iD ops j) k=true->hm k:=by
 intro j
 induction j using Nat.strongRecOn with
 |_ j ih=>
  intro k hj h;cases ho:ops[j]? with
  |none=>simp[iD,ho,jb]at h
  |some o=>
   obtain⟨e,Q,R,h3⟩:=(xN he ho).1 h;have hs:=hS j o hj ho e Q R;rcases h3 with rfl|h3
   . exact hs
   . exact ih e.on (he j o ho e Q R) k hs h3
end
structure kU(ops:Array Oper)(n0:Nat):Prop where
 vI:u7 ops
 dst:∀(j:Nat) (o:Oper),ops[j]? =some o->mU n0 o.dst
 one:∀(i j:Nat) (o q:Oper) (t:Nat),ops[i]? =some o->ops[j]? =some q->o.dst=some t->q.dst=some t->i=j
 use:∀(i j:Nat) (o q:Oper) (t:Nat),ops[i]? =some o->ops[j]? =some q->i≠j->o.dst=some t->t∈ud ops q->if i<j then ek (iD ops j) i=true else ek (iD ops i) j=true
theorem BT{ops:Array Oper}{n0:Nat}(h:Nt ops n0=true):kU ops n0:=by
 unfold Nt at h;rw[bq]at h;have at_:∀j o,ops[j]? =some o->(o.after.toList.all (fun e=>!Region.binds .any e||decide (e.on<j))=true/\(match o.dst with|some d=>decide (d<n0)|none=>true)=true/\
   ∀i,i<ops.size->i≠j->EA ops (oF ops.toList) i j=true):=by
  intro j o ho;have hj:j<ops.size:=(aT.1 ho).1;have:=h j (bH.2 hj);simp only[ho,ay,bq,bH]at this;obtain⟨⟨Q,R⟩,h3⟩:=this;refine⟨by rw[bq];exact Q,R,fun i hi ja=>?_⟩;have:=h3 i hi;simp only[bV]at this;rcases this with q|q
  . exact absurd (aA q) ja
  . exact q
 have S:∀j,j<ops.size->(oF ops.toList).getD j 0=iD ops j:=fun j hj=>by
  have:=mW ops ops.size (aK _) j hj;rwa [show ops.toList.take ops.size=ops.toList from by rw[cU];simp]at this
 refine⟨?_,?_,?_,?_⟩
 . intro j o ho e he hb;obtain⟨Q,_,_⟩:=at_ j o ho;rw[bq]at Q;have:=Q e (by simpa using he);simp only[hb,Bool.not_true,cm,aX]at this;exact this
 . intro j o ho d hd;obtain⟨_,R,_⟩:=at_ j o ho;rw[hd]at R;simpa using R
 . intro i j o q t hi hj ho hq;by_cases e:i=j
   . exact e
   . obtain⟨_,_,h3⟩:=at_ j q hj;have:=h3 i (aT.1 hi).1 e;simp only[EA,hi,hj,ho,hq,ay,bP]at this;have Q:=this.1;rw[Nat.beq_refl]at Q;cases Q
 . intro i j o q t hi hj ja ho ht;obtain⟨_,_,h3⟩:=at_ j q hj;have hil:=(aT.1 hi).1;have M0:=(aT.1 hj).1;have:=h3 i hil ja;have K:(ud ops q).contains t=true:=by simpa using ht
   simp only[EA,hi,hj,ho,ay,K,if_true,S i hil,S j M0]at this;have R:=this.2;split
   . rename_i q;rw[aE q]at R;exact R
   . rename_i q;rw[aB q]at R;exact R
abbrev tQ:=Nat×Nat×I O×Nat
def eE(h0:I O)(c0:Nat)(dJ:List tQ):Nat->Nat×I O×Nat
 |0=>(0,h0,c0)
 |c+1=>match dJ[c]? with
  |some e=>e.2
  |none=>(0,h0,c0)
section
variable{h0:I O}{c0:Nat}{dJ:List tQ}{e:tQ}
theorem pK{c:Nat}(h:c<=dJ.length):eE h0 c0 (dJ++[e]) c=eE h0 c0 dJ c:=by
 cases c with
 |zero=>rfl
 |succ c=>simp only[eE];rw[bB G]
theorem wq:eE h0 c0 (dJ++[e]) (dJ.length+1)=e.2:=by
 simp[eE]
end
def sJ(h0:I O)(c0:Nat)(dJ:List tQ):Nat->List (Nat×Nat×I O)
 |0=>[]
 |c+1=>match dJ[c]? with
  |some e=>(e.1,(eE h0 c0 dJ c).1,(eE h0 c0 dJ c).2.1)::sJ h0 c0 dJ c
  |none=>sJ h0 c0 dJ c
theorem zZ{h0:I O}{c0:Nat}{dJ:List tQ}{e:tQ}:∀c,c<=dJ.length->sJ h0 c0 (dJ++[e]) c=sJ h0 c0 dJ c
 |0,_=>rfl
 |c+1,h=>by
  simp only[sJ];rw[bB G,pK G,zZ c G]
structure yX(ops:Array Oper)(kO:I V)(val:Nat->V)(j:Nat)(F:I V):Prop where
 new:∀(i:Nat) (o:Oper) (t:Nat),i<j->ops[i]? =some o->o.dst=some t->F.get t=some (val i)
 old:∀(t:Nat),(∀(i:Nat) (o:Oper),i<j->ops[i]? =some o->o.dst≠some t)->F.get t=kO.get t
section
variable(P:Program)(cf:fL)(ops:Array Oper)(N:Nat)(h0:I O)(kO:I V)
def uv(val:Nat->V)(dx:af)(reads:List (Nat×Nat×Oper×I V×V))(dJ:List tQ)(j:Nat)(o:Oper):Prop:=
 ∃F,yX ops kO val j F/\
  ((fP ops o F=some false/\val j= .gC []) \/
   (fP ops o F=some true/\pq o.op=false/\(∃b,(j,b)∈dx/\N+j<fV/\∀y,dO P o F y (N+j)=some (.val (val j) (y.set (N+j) (some b)) (N+j+1)))) \/
   (fP ops o F=some true/\pq o.op=false/\(∀y,dO P o F y (N+j)=some (.val (val j) y (N+j)))) \/
   (fP ops o F=some true/\pq o.op=false/\(j,iD ops j,o,F,val j)∈reads/\
    ∀c,c<=dJ.length->(∀(c':Nat) (e:tQ),c<=c'->dJ[c']? =some e->ek (iD ops j) e.1=false)->(∀(c':Nat) (e:tQ),c'<c->dJ[c']? =some e->ek e.2.1 j=false)->
     ∃y,dO P o F (gu N dx (eE h0 (N+ops.size) dJ c).1 (eE h0 (N+ops.size) dJ c).2.1 (iD ops j)) (N+j)=some (.val (val j) y (N+j))) \/
   (fP ops o F=some true/\pq o.op=true/\∃c h n,dJ[c]? =some (j,iD ops j,h,n)/\
    (let x:=eE h0 (N+ops.size) dJ c
     (dO P o F (gu N dx x.1 x.2.1 (iD ops j)) x.2.2=some (.val (val j) h n)) \/
     ∃f args,dO P o F (gu N dx x.1 x.2.1 (iD ops j)) x.2.2=some (.call f args)/\cf f args (gu N dx x.1 x.2.1 (iD ops j)) x.2.2=some (.ret (val j),h,n))))
def rF(val:Nat->V)(j:Nat)(o:Oper)(b:O):Prop:=
 ∃F,yX ops kO val j F/\fP ops o F=some true/\pq o.op=false/\N+j<fV/\b.wr=true/\∀y,dO P o F y (N+j)=some (.val (val j) (y.set (N+j) (some b)) (N+j+1))
structure mw(val:Nat->V)(dJ:List tQ)(i:Nat)(d:Dr):Prop where
 eA:d.eA=oF (ops.toList.take i)
 F:yX ops kO val i d.F
 cur:d.cur=((eE h0 (N+ops.size) dJ dJ.length).1,(eE h0 (N+ops.size) dJ dJ.length).2.1)
 n:d.n=(eE h0 (N+ops.size) dJ dJ.length).2.2
 nZ:d.nZ=sJ h0 (N+ops.size) dJ dJ.length
 last:d.last=(dJ.getLast?).map (·.1)
 tB:∀(c:Nat) (e:tQ),dJ[c]? =some e->e.1<i/\∃o:Oper,ops[e.1]? =some o/\pq o.op=true/\e.2.1=iD ops e.1
 dx:∀x∈d.dx,x.1<i
 one:∀(j:Nat) (b b':O),(j,b)∈d.dx->(j,b')∈d.dx->b=b'
 yY:∀(c:Nat) (e:tQ) (o:Oper),dJ[c]? =some e->ops[e.1]? =some o->∃F,yX ops kO val e.1 F/\fP ops o F=some true
 AU:∀(j:Nat) (o:Oper) (b:O),(j,b)∈d.dx->ops[j]? =some o->rF P ops N kO val j o b
 chain:∀(c c':Nat) (e e':tQ),c'<c->dJ[c]? =some e->dJ[c']? =some e'->ek (iD ops e.1) e'.1=true
 Vu:∀(j:Nat) (o:Oper),j<i->ops[j]? =some o->uv P cf ops N h0 kO val d.dx d.reads dJ j o
end
mutual
theorem RI:∀(a b:D),D.beq a b=true->a=b
 | .bool a,b,h=>by cases b<;>simp[D.beq]at h;rw[h]
 | .int k a,b,h=>by cases b<;>simp[D.beq]at h;rw[h.1,h.2]
 | .str a,b,h=>by
   cases b<;>simp only[D.beq]at h<;>first|(cases h;done)|skip
   rw[kj]at h;rw[eq_of_beq h]
 | .eo n a,b,h=>by
   cases b<;>simp only[D.beq]at h<;>first|(cases h;done)|skip
   simp only[ay]at h;rw[aA h.1,uw _ _ h.2]
 | .agg a,b,h=>by
   cases b<;>simp only[D.beq]at h<;>first|(cases h;done)|skip
   rw[uw _ _ h]
theorem uw:∀(a b:ai),D.oJ a b=true->a=b
 | [],b,h=>by cases b<;>simp[D.oJ]at h;rfl
 |x::xs,b,h=>by
  cases b with
  |nil=>simp[D.oJ]at h
  |cons y ys=>
   simp only[D.oJ,ay]at h;rw[RI x y h.1,uw xs ys h.2]
end
mutual
theorem L3:∀(a:D),D.beq a a=true
 | .bool a=>by simp[D.beq]
 | .int k a=>by simp[D.beq]
 | .str a=>by simp only[D.beq];rw[kj];simp
 | .eo n a=>by simp only[D.beq,Nat.beq_refl,pL a,Bool.and_self]
 | .agg a=>by simp only[D.beq,pL a]
theorem pL:∀(a:ai),D.oJ a a=true
 | []=>rfl
 |x::xs=>by simp only[D.oJ,L3 x,pL xs,Bool.and_self]
end
mutual
theorem beq_eq:∀(a b:V),V.beq a b=true->a=b
 | .bool a,b,h=>by cases b<;>simp[V.beq]at h;rw[h]
 | .int k a,b,h=>by cases b<;>simp[V.beq]at h;rw[h.1,h.2]
 | .str a,b,h=>by
   cases b<;>simp only[V.beq]at h<;>first|(cases h;done)|skip
   rw[kj]at h;rw[eq_of_beq h]
 | .ptr a,b,h=>by
   cases b<;>simp only[V.beq]at h<;>first|(cases h;done)|skip
   rw[BU _ _ h]
 | .eS a l c e,b,h=>by
   cases b<;>simp only[V.beq]at h<;>first|(cases h;done)|skip
   simp only[ay]at h;obtain⟨⟨⟨Q,R⟩,h3⟩,h4⟩:=h;rw[BU _ _ Q,aA R,aA h3,aA h4]
 | .map a,b,h=>by
   cases b<;>simp only[V.beq]at h<;>first|(cases h;done)|skip
   rename_i c;cases a<;>cases c<;>simp only[Ey]at h<;>first|(cases h;done)|skip
   . rfl
   . rw[aA h]
 | .fn f a c,b,h=>by
   cases b<;>simp only[V.beq]at h<;>first|(cases h;done)|skip
   rename_i g b d;simp only[ay]at h;obtain⟨⟨Q,R⟩,h3⟩:=h;rw[sK a b R,sK c d h3];cases f<;>cases g<;>simp only[Ns]at Q<;>first|(cases Q;done)|skip
   all_goals rw[aA Q]
 | .kz,b,h=>by cases b<;>simp only[V.beq]at h<;>first|(cases h;done)|rfl
 | .iface t x,b,h=>by
   cases b<;>simp only[V.beq]at h<;>first|(cases h;done)|skip
   rename_i u y;simp only[ay]at h;rw[aA h.1,beq_eq x y h.2]
 | .nilIface,b,h=>by cases b<;>simp only[V.beq]at h<;>first|(cases h;done)|rfl
 | .agg a,b,h=>by
   cases b<;>simp only[V.beq]at h<;>first|(cases h;done)|skip
   rw[sK _ _ h]
 | .gC a,b,h=>by
   cases b<;>simp only[V.beq]at h<;>first|(cases h;done)|skip
   rw[sK _ _ h]
 | .eo f n a,b,h=>by
   cases b<;>simp only[V.beq]at h<;>first|(cases h;done)|skip
   simp only[ay,cJ]at h;rw[h.1,aA h.2.1,uw _ _ h.2.2]
 | .dr a,b,h=>by
   cases b<;>simp only[V.beq]at h<;>first|(cases h;done)|skip
   rw[uw _ _ h]
theorem sK:∀(a b:ag),V.oJ a b=true->a=b
 | [],b,h=>by cases b<;>simp only[V.oJ]at h<;>first|(cases h;done)|rfl
 |x::xs,b,h=>by
  cases b<;>simp only[V.oJ]at h<;>first|(cases h;done)|skip
  simp only[ay]at h;rw[beq_eq x _ h.1,sK xs _ h.2]
theorem BU:∀(a b:Option (Nat×Nat)),qm a b=true->a=b
 |none,b,h=>by cases b<;>simp only[qm]at h<;>first|(cases h;done)|rfl
 |some (x,y),b,h=>by
  cases b<;>simp only[qm]at h<;>first|(cases h;done)|skip
  simp only[ay]at h;rw[aA h.1,aA h.2]
end
theorem xO{P:Program}{N i:Nat}{o:Oper}{F:I V}{v:V}{x:I O}(h:mc P N i o F v x=true):∃y,dO P o F x (N+i)=some (.val v y (N+i)):=by
 unfold mc at h;split at h
 . rename_i u y k e;simp only[ay]at h;have Q:=aA h.1;have R:=beq_eq _ _ h.2;subst Q;subst R;exact⟨y,e⟩
 . cases h
theorem L4{N i:Nat}{b:O}{l:af}{m:Nat}{x:I O}{ia:Nat}(h:ek ia i=false):gu N ((i,b)::l) m x ia=gu N l m x ia:=by
 simp[gu,h]
theorem DR{P:Program}{N i:Nat}{o:Oper}{F:I V}{v:V}{dx:af}{ia:Nat}{h0:I O}{c0:Nat}{dJ:List tQ}:
  ∀k,k<=dJ.length->pz P N i o F v dx ia (sJ h0 c0 dJ k)=true->∀c,c<k->(∀(c':Nat) (e:tQ),c<=c'->c'<k->dJ[c']? =some e->ek ia e.1=false)->
   ∃y,dO P o F (gu N dx (eE h0 c0 dJ c).1 (eE h0 c0 dJ c).2.1 ia) (N+i)=some (.val v y (N+i))
 |0,_,_,c,K,_=>by omega
 |k+1,Y,h,c,K,hn=>by
  have he:dJ[k]? =some dJ[k]:=au G;simp only[sJ,he,pz]at h;have hb:=hn k dJ[k] G G he;rw[hb]at h;simp only[aM,cr,ay]at h;by_cases q:c=k
  . subst q;exact xO h.1
  . exact DR k G h.2 c G fun c' e Q R h3=>hn c' e Q G h3
theorem BV{P:Program}{N:Nat}{dx:af}{m:Nat}{x:I O}:∀(l:List (Nat×Nat×Oper×I V×V)),oK P N dx m x l=true->
  ∀j ia o F v,(j,ia,o,F,v)∈l->ek m j=false->∃y,dO P o F (gu N dx m x ia) (N+j)=some (.val v y (N+j))
 | [],_,j,ia,o,F,v,S,_=>by simp at S
 |(j',asN,o',Ze,v')::l,h,j,ia,o,F,v,S,hb=>by
  simp only[oK,ay,bV]at h;rcases aD.1 S with q|q
  . cases q;rcases h.1 with Q|Q
    . rw[hb]at Q;cases Q
    . exact xO Q
  . exact BV l h.2 j ia o F v q hb
section
variable{P:Program}{cf:fL}{ops:Array Oper}{N n0:Nat}{h0:I O}{kO:I V}
theorem yX.mono{val ic:Nat->V}{j:Nat}{F:I V}(h:yX ops kO val j F)(hv:∀k,k<j->ic k=val k):yX ops kO ic j F:=
 ⟨fun i o t hi ho hd=>by rw[hv i hi];exact h.new i o t hi ho hd,h.old⟩
theorem yX.step{val ic:Nat->V}{i:Nat}{F Ze:I V}{o:Oper}{v:V}(hr:kU ops n0)(ho:ops[i]? =some o)(h:yX ops kO val i F)(hv:∀k,k<i->ic k=val k)(hi:ic i=v)
  (e:jn F o.dst v=some Ze):yX ops kO ic (i+1) Ze:=by
 have h':=h.mono hv;cases hd:o.dst with
 |none=>
  rw[hd]at e;simp only[jn,aq]at e;subst e;refine⟨fun k q t Y hq ht=>?_,fun t ht=>h'.old t fun k q Y hq=>ht k q G hq⟩;by_cases c:k=i
  . subst c;rw[ho]at hq;cases hq;rw[hd]at ht;cases ht
  . exact h'.new k q t G hq ht
 |some d=>
  rw[hd]at e;simp only[jn]at e;split at e
  . rename_i gF;obtain rfl:=eB e;refine⟨fun k q t Y hq ht=>?_,fun t ht=>?_⟩
    . by_cases c:k=i
      . subst c;rw[ho]at hq;cases hq;rw[hd]at ht;cases ht;rw[I.oP _ _ gF,hi]
      . have ja:t≠d:=by
         intro q';subst q';exact c (hr.one k i q o t hq ho ht hd)
        rw[I.vW _ _ gF ja];exact h'.new k q t G hq ht
    . have ja:t≠d:=by intro q;subst q;exact ht i o G ho hd
      rw[I.vW _ _ gF ja];exact h'.old t fun k q Y hq=>ht k q G hq
  . cases e
theorem Vv{he:u7 ops}{j i:Nat}(h:j<=i):ek (iD ops j) i=false:=by
 cases q:ek (iD ops j) i with
 |false=>rfl
 |true=>have:=I2 he j i q;omega
theorem rF.mono{val ic:Nat->V}{j:Nat}{o:Oper}{b:O}(h:rF P ops N kO val j o b)(hv:∀k,k<=j->ic k=val k):rF P ops N kO ic j o b:=by
 obtain⟨F,f1,f2,f3,f4,f6,f5⟩:=h;exact⟨F,f1.mono fun k Y=>hv k G,f2,f3,f4,f6,fun y=>by rw[hv j (aK _)];exact f5 y⟩
theorem uv.quiet{val ic:Nat->V}{dx kL:af}{reads wu:List (Nat×Nat×Oper×I V×V)}{dJ:List tQ}{j:Nat}{o:Oper}
  (h:uv P cf ops N h0 kO val dx reads dJ j o) (hv:∀k,k<=j->ic k=val k) (ha:∀x∈dx,x∈kL) (hr:∀x∈reads,x∈wu)
  (DS:∀m x,gu N kL m x (iD ops j)=gu N dx m x (iD ops j)):uv P cf ops N h0 kO ic kL wu dJ j o:=by
 obtain⟨F,f1,f2⟩:=h;refine⟨F,f1.mono fun k Y=>hv k G,?_⟩;have hj:=hv j (aK _);rw[hj];rcases f2 with q|⟨q1,q2,b,q3,q4,q5⟩|q|⟨q1,q2,q3,q4⟩|⟨q1,q2,c,h,n,q3,q4⟩
 . exact .inl q
 . exact .inr (.inl ⟨q1,q2,b,ha _ q3,q4,q5⟩)
 . exact .inr (.inr (.inl q))
 . refine .inr (.inr (.inr (.inl ⟨q1,q2,hr _ q3,fun c K Q R=>?_⟩)));rw[DS];exact q4 c K Q R
 . refine .inr (.inr (.inr (.inr ⟨q1,q2,c,h,n,q3,?_⟩)));simp only[DS];exact q4
theorem uv.effect{val ic:Nat->V}{dx:af}{reads:List (Nat×Nat×Oper×I V×V)}{dJ:List tQ}{e:tQ}{j:Nat}{o:Oper}
  (h:uv P cf ops N h0 kO val dx reads dJ j o) (hv:∀k,k<=j->ic k=val k) (mC:oK P N dx e.2.1 e.2.2.1 reads=true):
  uv P cf ops N h0 kO ic dx reads (dJ++[e]) j o:=by
 obtain⟨F,f1,f2⟩:=h;refine⟨F,f1.mono fun k Y=>hv k G,?_⟩;have hj:=hv j (aK _);rw[hj];rcases f2 with q|q|q|⟨q1,q2,q3,q4⟩|⟨q1,q2,c,h,n,q3,q4⟩
 . exact .inl q
 . exact .inr (.inl q)
 . exact .inr (.inr (.inl q))
 . refine .inr (.inr (.inr (.inl ⟨q1,q2,q3,fun c K Q R=>?_⟩)));simp only[aJ,aR,bU]at K;by_cases cl:c<=dJ.length
   . rw[pK cl];refine q4 c cl (fun c' e' I3 AH=>Q c' e' I3 ?_) (fun c' e' I3 AH=>R c' e' I3 ?_)
     . rw[bB (aO.1 AH).1];exact AH
     . rw[bB (aO.1 AH).1];exact AH
   . have vG:c=dJ.length+1:=by omega
     subst vG;rw[wq];exact BV reads mC j _ o F _ q3 (R dJ.length e G (by simp))
 . have K:=(aO.1 q3).1;refine .inr (.inr (.inr (.inr ⟨q1,q2,c,h,n,by rw[bB K];exact q3,?_⟩)));rw[pK G];exact q4
theorem L5{val:Nat->V}{dJ:List tQ}{i:Nat}{d:Dr}(hr:kU ops n0)(f:mw P cf ops N h0 kO val dJ i d)(hl:yJ (iD ops i) d.last=true):
  ∀(c:Nat) (e:tQ),dJ[c]? =some e->ek (iD ops i) e.1=true:=by
 intro c e he;have K:=(aO.1 he).1;rw[f.last]at hl;have hg:dJ.getLast? =some (dJ[dJ.length-1]'(by omega)):=by
  rw[List.getLast?_eq_getElem?,au]
 rw[hg]at hl;simp only[bu,yJ]at hl;by_cases q:c=dJ.length-1
 . subst q;rw[au G]at he;cases he;exact hl
 . exact DQ hr.vI i _ _ hl (f.chain (dJ.length-1) c _ e G (au G) he)
theorem DT{val:Nat->V}{dJ:List tQ}{i:Nat}{d d':Dr}{o:Oper}{v:V}{h:I O}{n:Nat}(hr:kU ops n0)(ho:ops[i]? =some o)(f:mw P cf ops N h0 kO val dJ i d)
  (hw:fP ops o d.F=some true) (BW:pq o.op=true) (hl:yJ (iD ops i) d.last=true) (ha:kB P N i (iD ops i) o d v h n=some d')
  (S:oF (ops.toList.take (i+1))=d.eA++[iD ops i])
  (run:(dO P o d.F (gu N d.dx d.cur.1 d.cur.2 (iD ops i)) d.n=some (.val v h n)) \/
   ∃g args,dO P o d.F (gu N d.dx d.cur.1 d.cur.2 (iD ops i)) d.n=some (.call g args)/\cf g args (gu N d.dx d.cur.1 d.cur.2 (iD ops i)) d.n=some (.ret v,h,n)):
  ∃ic pM,mw P cf ops N h0 kO ic pM (i+1) d':=by
 unfold kB at ha;split at ha
 . rename_i F hp;split at ha
   . rename_i mC;obtain rfl:=eB ha
     let ic:Nat->V:=fun k=>if k=i then v else val k
     have GQ:ic i=v:=by simp[ic]
     have hv:∀k,k<i->ic k=val k:=fun k Y=>by simp[ic,show k≠i by omega]
     refine⟨ic,dJ++[(i,iD ops i,h,n)],?_⟩;have jO:(dJ++[(i,iD ops i,h,n)]).length=dJ.length+1:=by simp
     refine⟨S.symm,f.F.step hr ho hv GQ hp,?_,?_,?_,by simp,?_,fun x H=>by have:=f.dx x H;omega,f.one,fun c e q he hq=>?_,fun j q b hb hq=>(f.AU j q b hb hq).mono fun k Y=>hv k (by have:=f.dx _ hb;simp at this;omega),?_,?_⟩
     . rw[jO,wq]
     . rw[jO,wq]
     . rw[jO];simp only[sJ];rw[cM G];simp only[Nat.sub_self,cG];rw[pK (aK _),zZ _ (aK _),<- f.nZ,f.cur]
     . intro c e he;by_cases q:c<dJ.length
       . rw[bB q]at he;obtain⟨Q,R⟩:=f.tB c e he;exact⟨G,R⟩
       . have K:=(aO.1 he).1;simp at K;have:c=dJ.length:=by omega
         subst this;simp at he;subst he;exact⟨by simp,o,ho,BW,rfl⟩
     . by_cases q2:c<dJ.length
       . rw[bB q2]at he;obtain⟨Q,_⟩:=f.tB c e he;obtain⟨I4,g1,g2⟩:=f.yY c e q he hq;exact⟨I4,g1.mono fun k Y=>hv k G,g2⟩
       . have K:=(aO.1 he).1;simp at K;have:c=dJ.length:=by omega
         subst this;simp at he;subst he;simp only at hq;rw[ho]at hq;cases hq;exact⟨d.F,f.F.mono hv,hw⟩
     . intro c c' e e' NW he AH;have K:=(aO.1 he).1;simp at K;have I3:c'<dJ.length:=by omega
       rw[bB I3]at AH;by_cases q:c<dJ.length
       . rw[bB q]at he;exact f.chain c c' e e' NW he AH
       . have:c=dJ.length:=by omega
         subst this;simp at he;subst he;exact L5 hr f hl c' e' AH
     . intro j q hj hq;by_cases c:j=i
       . subst c;rw[ho]at hq;cases hq;refine⟨d.F,f.F.mono hv,.inr (.inr (.inr (.inr ⟨hw,BW,dJ.length,h,n,by simp,?_⟩)))⟩;rw[pK (aK _),GQ];have aab:=f.cur;have hn:=f.n;have e1:d.cur.1=(eE h0 (N+ops.size) dJ dJ.length).1:=by rw[aab]
         have e2:d.cur.2=(eE h0 (N+ops.size) dJ dJ.length).2.1:=by rw[aab]
         rw[e1,e2,hn]at run;exact run
       . exact(f.Vu j q G hq).effect (fun k Y=>hv k G) mC
   . cases ha
 . cases ha
theorem BX{val:Nat->V}{dJ:List tQ}{i:Nat}{d d':Dr}{o:Oper}(hr:kU ops n0)(ho:ops[i]? =some o)(f:mw P cf ops N h0 kO val dJ i d)
  (e:lM P cf ops N i o d=some (.inl d')):∃ic pM,mw P cf ops N h0 kO ic pM (i+1) d':=by
 have hi:i<ops.size:=(aT.1 ho).1;have AI:fb d.eA o.after.toList=iD ops i:=by rw[f.eA];unfold iD;rw[ho]
 have S:oF (ops.toList.take (i+1))=d.eA++[iD ops i]:=by
  rw[DP (by rw[bJ];exact ho),BQ,<- f.eA,AI]
 unfold lM at e;simp only[AI]at e;have u9:∀(v:V) (F:I V) (kL:af) (wu:List (Nat×Nat×Oper×I V×V)),jn d.F o.dst v=some F->(∀x∈d.dx,x∈kL)->(∀x∈d.reads,x∈wu)->
   (∀j m x,j<=i->gu N kL m x (iD ops j)=gu N d.dx m x (iD ops j))->(∀x∈kL,x.1<i+1)->(∀j b b',(j,b)∈kL->(j,b')∈kL->b=b')->
   (∀ic,(∀k,k<i->ic k=val k)->ic i=v->∀b,(i,b)∈kL->rF P ops N kO ic i o b)->(∀x∈kL,x.1≠i->x∈d.dx)->
   (∀ic,(∀k,k<i->ic k=val k)->ic i=v->uv P cf ops N h0 kO ic kL wu dJ i o)->
   ∃ic pM,mw P cf ops N h0 kO ic pM (i+1) { d with F:=F,eA:=d.eA++[iD ops i],dx:=kL,reads:=wu }:=by
  intro v F kL wu hp ha hrd DS hai IP hal af8 oQ
  let ic:Nat->V:=fun k=>if k=i then v else val k
  have GQ:ic i=v:=by simp[ic]
  have hv:∀k,k<i->ic k=val k:=fun k Y=>by simp[ic,show k≠i by omega]
  refine⟨ic,dJ,⟨S.symm,f.F.step hr ho hv GQ hp,f.cur,f.n,f.nZ,f.last,fun c e he=>?_,hai,IP,fun c e q he hq=>?_,fun j q b hb hq=>?_,f.chain,fun j q hj hq=>?_⟩⟩
  . obtain⟨Q,R⟩:=f.tB c e he;exact⟨G,R⟩
  . obtain⟨Q,_⟩:=f.tB c e he;obtain⟨I4,g1,g2⟩:=f.yY c e q he hq;exact⟨I4,g1.mono fun k Y=>hv k G,g2⟩
  . by_cases c:j=i
    . subst c;rw[ho]at hq;cases hq;exact hal ic hv GQ b hb
    . have AV:=af8 _ hb c;exact(f.AU j q b AV hq).mono fun k Y=>hv k (by have:=f.dx _ AV;simp at this;omega)
  . by_cases c:j=i
    . subst c;rw[ho]at hq;cases hq;exact oQ ic hv GQ
    . exact(f.Vu j q G hq).quiet (fun k Y=>hv k G) ha hrd fun m x=>DS j m x G
 have e1:d.cur.1=(eE h0 (N+ops.size) dJ dJ.length).1:=by rw[f.cur]
 have e2:d.cur.2=(eE h0 (N+ops.size) dJ dJ.length).2.1:=by rw[f.cur]
 split at e
 . rename_i hw;split at e
   . rename_i F hp;simp only[aq,Sum.inl.injEq]at e;subst e;exact u9 (.gC []) F d.dx d.reads hp (fun _ h=>h) (fun _ h=>h) (fun _ _ _ _=>rfl) (fun x H=>by have:=f.dx x H;omega) f.one (fun _ _ _ b hb=>by have:=f.dx _ hb;simp at this) (fun _ H _=>H)
      fun ic hv GQ=>⟨d.F,f.F.mono hv,.inl ⟨hw,GQ⟩⟩
   . cases e
 . rename_i hw;split at e
   . rename_i BW;split at e
     . rename_i hl;split at e
       . rename_i v h n hs;split at e
         . rename_i A ha;simp only[aq,Sum.inl.injEq]at e;subst e;exact DT hr ho f hw BW hl ha S (.inl hs)
         . cases e
       . rename_i g args hs;split at e
         . rename_i v h n K;split at e
           . rename_i A ha;simp only[aq,Sum.inl.injEq]at e;subst e;exact DT hr ho f hw BW hl ha S (.inr ⟨g,args,hs,K⟩)
           . cases e
         . split at e
           . cases e
           . cases e
         . cases e
       . cases e
     . cases e
   . rename_i BW;have GR:pq o.op=false:=by simpa using BW
     split at e
     . rename_i v h k hs;split at e
       . rename_i F hp;have hq:=quiet GR hs;split at e
         . rename_i Y;have oG:=aA Y;subst oG;split at e
           . rename_i aac;simp only[aq,Sum.inl.injEq]at e;subst e;obtain⟨u,Q,R⟩:=GM aac hs;cases Q;exact u9 v F d.dx d.reads hp (fun _ h=>h) (fun _ h=>h) (fun _ _ _ _=>rfl) (fun x H=>by have:=f.dx x H;omega) f.one (fun _ _ _ b hb=>by have:=f.dx _ hb;simp at this) (fun _ H _=>H)
              fun ic hv GQ=>⟨d.F,f.F.mono hv,.inr (.inr (.inl ⟨hw,GR,fun y=>by rw[GQ];exact R y _⟩))⟩
           . split at e
             . rename_i nZ;simp only[aq,Sum.inl.injEq]at e;subst e;refine u9 v F d.dx ((i,iD ops i,o,d.F,v)::d.reads) hp (fun _ h=>h) (fun x H=>by simp[H]) (fun _ _ _ _=>rfl) (fun x H=>by have:=f.dx x H;omega) f.one (fun _ _ _ b hb=>by have:=f.dx _ hb;simp at this) (fun _ H _=>H)
                fun ic hv GQ=>⟨d.F,f.F.mono hv,.inr (.inr (.inr (.inl ⟨hw,GR,by simp[GQ],fun c K Q _=>?_⟩)))⟩
               rw[GQ];by_cases q:c=dJ.length
               . subst q;rw[<- e1,<- e2];exact⟨h,hs⟩
               . rw[f.nZ]at nZ;exact DR dJ.length (aK _) nZ c G fun c' e' q1 _ q3=>Q c' e' q1 q3
             . cases e
         . rename_i Y;split at e
           . rename_i b hb;split at e
             case isFalse=>cases e
             rename_i Zf;simp only[aq,Sum.inl.injEq]at e;subst e;rcases hq with⟨u,Q,_⟩|⟨u,b',Q,R,h3⟩
             . cases Q;exact absurd (Nat.beq_refl _) Y
             . cases R;rw[I.oP _ _ Q]at hb;cases hb;refine u9 v F ((i,b)::d.dx) d.reads hp (fun x H=>by simp[H]) (fun _ h=>h) (fun j m x hj=>L4 (Vv (he:=hr.vI) hj)) (fun x H=>?_) (fun j c c' K I3=>?_) (fun ic hv GQ c K=>?_) (fun x H ja=>?_)
                fun ic hv GQ=>⟨d.F,f.F.mono hv,.inr (.inl ⟨hw,GR,b,by simp,Q,fun y=>by rw[GQ];exact h3 y⟩)⟩
               . rcases aD.1 H with rfl|H
                 . simp
                 . have:=f.dx x H;omega
               . rcases aD.1 K with q|q<;>rcases aD.1 I3 with q'|q'
                 . cases q;cases q';rfl
                 . cases q;have:=f.dx _ q';simp at this
                 . cases q';have:=f.dx _ q;simp at this
                 . exact f.one j c c' q q'
               . rcases aD.1 K with q|q
                 . cases q;exact⟨d.F,f.F.mono hv,hw,GR,Q,Zf,fun y=>by rw[GQ];exact h3 y⟩
                 . have:=f.dx _ q;simp at this
               . rcases aD.1 H with q|q
                 . cases q;exact absurd rfl ja
                 . exact q
           . cases e
       . cases e
     . cases e
 . cases e
theorem wv(F:I V)(h:I O):mw P cf ops N h F (fun _=>.kz) [] 0 { F:=F,eA:=[],cur:=(0,h),nZ:=[],last:=none,dx:=[],reads:=[],n:=N+ops.size }:=by
 refine⟨by simp[oF],⟨fun i o t hi=>by omega,fun t _=>rfl⟩,rfl,rfl,rfl,rfl,fun c e he=>by simp at he,fun x H=>by simp at H,fun j b b' hb=>by simp at hb,fun c e o he=>by simp at he,fun j o b hb=>by simp at hb,fun c c' e e' _ he=>by simp at he,fun j o hj=>by omega⟩
theorem DU(hr:kU ops n0):∀(l:List Oper) (i:Nat) (d:Dr) (val:Nat->V) (dJ:List tQ) (r:Dr ⊕ (I V×V×I O×Nat)),l=ops.toList.drop i->mw P cf ops N h0 kO val dJ i d->
  iE P cf ops N l i d=some r->
  match r with
  | .inl d'=>∃ic pM,mw P cf ops N h0 kO ic pM (max i ops.size) d'
  | .inr x=>∃j o d' ic pM,ops[j]? =some o/\mw P cf ops N h0 kO ic pM j d'/\lM P cf ops N j o d'=some (.inr x)
 | [],i,d,val,dJ,r,hl,f,e=>by
   simp only[iE,aq]at e;subst e;have hi:ops.size<=i:=by
    have:=aH List.length hl;simp at this;omega
   rw[Nat.max_eq_left hi];exact⟨val,dJ,f⟩
 |o::l,i,d,val,dJ,r,hl,f,e=>by
  have hi:i<ops.size:=by
   have:=aH List.length hl;simp at this;omega
  have ho:ops[i]? =some o:=by
   have:=aH (fun x=>x[0]?) hl;simp at this;exact this.symm
  have Z2:l=ops.toList.drop (i+1):=by
   have:=aH List.tail hl;simpa using this
  simp only[iE]at e;split at e
  . rename_i A hs;obtain⟨ic,pM,f'⟩:=BX hr ho f hs;have:=DU hr l (i+1) A ic pM r Z2 f' e;cases r with
    |inl d'=>rw[show max (i+1) ops.size=max i ops.size by omega]at this;exact this
    |inr x=>exact this
  . rename_i x H;cases r with
    |inl d'=>exact absurd e (H d')
    |inr y=>exact⟨i,o,d,val,dJ,ho,f,e⟩
end
theorem Good.ext{E:Env}{h h':I O}{w:World}(g:Good E h w)(e:∀k,h'.get k=h.get k):Good E h' w:=g.sub fun m o q=>by rw[<- e];exact q
theorem iL.ext{E E':Env}{h h' R:I O}{w w':World}(u:iL E h w E' h' w')(e:∀k,R.get k=h'.get k):iL E h w E' R w':=
 ⟨u.le,u.good.ext e,u.size,u.tape,u.os,u.output,u.keep,fun m b s S q hb=>let⟨m0,s0,a1,a2,a3⟩:=u.tv m b s (by rw[<- e];exact S) q hb;⟨m0,s0,a1,a2,fun c=>a3 (Ny (e m) c)⟩,u.C8⟩
theorem iL.frame{E E':Env}{h x y z:I O}{w w':World}(g:Good E h w)(H:Sub x h)(u:iL E x w E' y w')
  (hz:∀k,z.get k=match y.get k with|some o=>some o|none=>if x.get k=none then h.get k else none):iL E h w E' z w':=by
 have rest:∀k o,h.get k=some o->x.get k=none->∃b s,E.ι k=some (b,s)/\E'.ι k=some (b,s)/\E'.β b=E.β b/\b<w.heap.size/\w'.heap[b]? =w.heap[b]?/\(∀m A,eL y m->E'.ι m≠some (b,A))/\(o.wr=true->∀m A,y.get m≠none->E'.ι m≠some (b,A))/\nA E w b s o:=by
  intro k o Y hxk;obtain⟨b,s,Q,R⟩:=g.rel k o Y;have hb:=g.oy k b s Q;have ja:∀m,x.get m≠none->m≠k:=by intro m S e;subst e;exact S hxk
  have zW:∀m A,eL x m->E.ι m≠some (b,A):=by
   intro m A S q;exact g.inj m k b A s (ja m S.live) (gY H S) (by rw[Y];simp) q Q
  have aga:o.wr=true->∀m A,x.get m≠none->E.ι m≠some (b,A):=by
   intro ho m A S q;exact g.inj k m b s A (fun e=>ja m S e.symm) ⟨o,Y,ho⟩ (pD H S) Q q
  refine⟨b,s,Q,(u.le.nm k b s Q).1,(u.le.nm k b s Q).2,hb,u.keep b hb zW,?_,?_,R⟩
  . intro m A S q;obtain⟨m0,s0,a1,a2,a3⟩:=u.tv m b A S.live q hb;exact zW m0 s0 (a3 S) a2
  . intro ho m A S q;obtain⟨m0,s0,a1,a2,a3⟩:=u.tv m b A S q hb;exact aga ho m0 s0 a1 a2
 have zc:∀k o,z.get k=some o->y.get k=some o\/(y.get k=none/\x.get k=none/\h.get k=some o):=by
  intro k o q;rw[hz]at q;split at q
  . rename_i o' hy;cases q;exact .inl hy
  . rename_i hy;split at q
    . rename_i Rd;exact .inr ⟨hy,Rd,q⟩
    . cases q
 have old:∀k o b s,h.get k=some o->o.wr=true->x.get k=none->E.ι k=some (b,s)->∀c,E'.φ b≠some c:=by
  intro k o b s Y ho hxk e c K;rcases u.C8 b c K with q|q|⟨m,A,q1,q2⟩
  . exact(g.iu b c q).2 k s ⟨o,Y,ho⟩ e
  . have:=g.oy k b s e;omega
  . exact g.inj m k b A s (fun q=>by subst q;exact q1.live hxk) (gY H q1) (by rw[Y];simp) q2 e
 refine⟨u.le,⟨?_,?_,u.good.oy,u.good.kg,fun b c K=>⟨(u.good.iu b c K).1,fun m s S e=>?_⟩⟩,u.size,u.tape,u.os,u.output,?_,?_,?_⟩
 case refine_3=>
  obtain⟨o,S,ho⟩:=S;rcases zc m o S with ym|⟨ym,Rd,hh⟩
  . exact(u.good.iu b c K).2 m s ⟨o,ym,ho⟩ e
  . obtain⟨b',t,Q,R,_⟩:=rest m o hh Rd;rw[R]at e;cases e;exact old m o b s hh ho Rd Q c K
 case refine_6=>
  intro b c K;rcases u.C8 b c K with q|q|⟨m,s,q1,q2⟩
  . exact .inl q
  . exact .inr (.inl q)
  . exact .inr (.inr ⟨m,s,gY H q1,q2⟩)
 . intro m o S;rcases zc m o S with hy|⟨hy,Rd,S⟩
   . exact u.good.rel m o hy
   . obtain⟨b,s,Q,R,h3,h4,h5,h6,h6',h7⟩:=rest m o S Rd;exact⟨b,s,R,jd u.le h3 h5 h7⟩
 . intro m m' b s A ja S qe e e';obtain⟨o,S,ho⟩:=S;obtain⟨o',qe⟩:=bw.1 qe;rcases zc m o S with ym|⟨ym,Rd,hh⟩
   . rcases zc m' o' qe with ym'|⟨ym',Vw,hh'⟩
     . exact u.good.inj m m' b s A ja ⟨o,ym,ho⟩ (by rw[ym'];simp) e e'
     . obtain⟨b',t,Q,R,h3,h4,h5,h6,h6',h7⟩:=rest m' o' hh' Vw;rw[R]at e';cases e';exact h6 m s ⟨o,ym,ho⟩ e
   . obtain⟨b',t,Q,R,h3,h4,h5,h6,h6',h7⟩:=rest m o hh Rd;rw[R]at e;cases e;rcases zc m' o' qe with ym'|⟨ym',Vw,hh'⟩
     . exact h6' ho m' A (by rw[ym'];simp) e'
     . obtain⟨b2,t2,k1,k2,_⟩:=rest m' o' hh' Vw;rw[k2]at e';cases e';exact g.inj m m' _ _ _ ja ⟨o,hh,ho⟩ (by rw[hh'];simp) Q k1
 . intro b hb hn;exact u.keep b hb fun m s S=>hn m s (gY H S)
 . intro m b s S e hb;obtain⟨o,S⟩:=bw.1 S;have hw:eL z m->o.wr=true:=by rintro⟨o2,q1,q2⟩;rw[S]at q1;cases q1;exact q2
   rcases zc m o S with ym|⟨ym,Rd,hh⟩
   . obtain⟨m0,s0,a1,a2,a3⟩:=u.tv m b s (by rw[ym];simp) e hb;exact⟨m0,s0,pD H a1,a2,fun q=>gY H (a3 ⟨o,ym,hw q⟩)⟩
   . obtain⟨b',t,Q,R,_⟩:=rest m o hh Rd;rw[R]at e;cases e;exact⟨m,_,by rw[hh];simp,Q,fun q=>⟨o,hh,hw q⟩⟩
theorem BY{N:Nat}{m:Nat}{x:I O}{ia k:Nat}:∀(l:af),(∀y∈l,N+y.1<fV)->
  (gu N l m x ia).get k=match l.find? (fun y=>Nat.beq (N+y.1) k&&ek ia y.1&& !ek m y.1)with|some y=>some y.2|none=>x.get k
 | [],_=>rfl
 |(i,o)::l,ht=>by
  have ih:=BY (k:=k) (m:=m) (x:=x) (ia:=ia) l fun y hy=>ht y (by simp[hy]);simp only[gu];by_cases hb:(ek ia i&& !ek m i)=true
  . rw[aE hb,I.fF _ _ _ (ht (i,o) (by simp))];by_cases q:k=N+i
    . subst q;rw[aE rfl,List.find?_cons_of_pos (by simp only[Nat.beq_refl,aN];exact hb)]
    . rw[aB q,ih,List.find?_cons_of_neg];have:Nat.beq (N+i) k=false:=by
       cases hh:Nat.beq (N+i) k with
       |false=>rfl
       |true=>exact absurd (aA hh).symm q
      simp[this]
  . rw[aB hb,ih,List.find?_cons_of_neg];intro q;simp only[Bool.and_assoc]at q;rw[ay]at q;exact hb q.2
section
variable{N m:Nat}{x:I O}
theorem ji{ia i:Nat}{b:O}{l:af}(ht:∀y∈l,N+y.1<fV)(one:∀(j:Nat) (b b':O),(j,b)∈l->(j,b')∈l->b=b')(hi:(i,b)∈l)
  (ha:ek ia i=true) (S:ek m i=false):(gu N l m x ia).get (N+i)=some b:=by
 rw[BY l ht];cases hf:l.find? (fun y=>Nat.beq (N+y.1) (N+i)&&ek ia y.1&& !ek m y.1)with
 |none=>
  have:=List.find?_eq_none.1 hf (i,b) hi;simp[Nat.beq_refl,ha,S]at this
 |some y=>
  have Q:=List.mem_of_find?_eq_some hf;have R:=List.find?_some hf;simp only[ay]at R;have h3:=aA R.1.1;have h4:y.1=i:=by omega
  obtain⟨y1,y2⟩:=y;simp only at h4;subst h4;simp only[one y1 y2 b Q hi]
theorem nK{ia k:Nat}{l:af}(ht:∀y∈l,N+y.1<fV)(h:∀i b,(i,b)∈l->ek ia i=true->ek m i=false->k≠N+i):(gu N l m x ia).get k=x.get k:=by
 rw[BY l ht];cases hf:l.find? (fun y=>Nat.beq (N+y.1) k&&ek ia y.1&& !ek m y.1)with
 |none=>rfl
 |some y=>
  have Q:=List.mem_of_find?_eq_some hf;have R:=List.find?_some hf;simp only[ay,bP]at R;exact absurd (aA R.1.1).symm (h y.1 y.2 Q R.1.2 R.2)
theorem iT{ia:Nat}{l:af}(ht:∀y∈l,N+y.1<fV)(one:∀(j:Nat) (b b':O),(j,b)∈l->(j,b')∈l->b=b')(k:Nat):
  (∃i b,(i,b)∈l/\ek ia i=true/\ek m i=false/\k=N+i/\(gu N l m x ia).get k=some b) \/
  ((∀i b,(i,b)∈l->ek ia i=true->ek m i=false->k≠N+i)/\(gu N l m x ia).get k=x.get k):=by
 by_cases h:∃i b,(i,b)∈l/\ek ia i=true/\ek m i=false/\k=N+i
 . obtain⟨i,b,Q,R,h3,rfl⟩:=h;exact .inl ⟨i,b,Q,R,h3,rfl,ji ht one Q R h3⟩
 . have h':∀i b,(i,b)∈l->ek ia i=true->ek m i=false->k≠N+i:=fun i b Q R h3 q=>h ⟨i,b,Q,R,h3,q⟩;exact .inr ⟨h',nK ht h'⟩
end
def GS(E:Env):es->Exit->Prop
 | .normal,.normal=>True
 | .exit i,.exit j=>i=j
 | .ret,.ret=>True
 | .panic v,.panic chain=>∃v',dQ E v v'/\chain=[{ v:=v',recovered:=false }]
 |_,_=>False
section
variable{P:Program}{cf:fL}{ops:Array Oper}{N n0 gH:Nat}{h0:I O}{kO:I V}{val:Nat->V}{dJ:List tQ}{d:Dr}{E0:Env}{w0:World}{xP:List Deferred}
structure Inv(ops:Array Oper)(N n0 gH:Nat)(h0:I O)(kO:I V)(val:Nat->V)(dJ:List tQ)(dx:af)(E0:Env)(w0:World)(xP:List Deferred)
  (hm:Nat->Bool) (ms fm:Nat) (E:Env) (a:Act) (w:World):Prop where
 bits:∀i,ek ms i=hm i
 NX:∀i,hm i=true->i<gH
 closed:∀(j:Nat) (o:Oper),hm j=true->ops[j]? =some o->∀e∈o.after,Region.binds .any e=true->hm e.on=true
 Dl:∀(c:Nat) (e:tQ),dJ[c]? =some e->(hm e.1=true↔c<fm)
 Zg:fm<=dJ.length
 f1:∀(j:Nat) (o:Oper) (t:Nat),hm j=true->ops[j]? =some o->o.dst=some t->∃v',a.tmps[t]? =some v'/\dQ E (val j) v'
 f2:∀(t:Nat) (v:V),kO.get t=some v->(∀(j:Nat) (o:Oper),hm j=true->ops[j]? =some o->o.dst≠some t)->∃v',a.tmps[t]? =some v'/\dQ E v v'
 tA:iL E0 h0 w0 E (gu N dx (eE h0 (N+ops.size) dJ fm).1 (eE h0 (N+ops.size) dJ fm).2.1 ms) w
 old:∀k,k<N->E.ι k=E0.ι k
 qd:∀k p,E.ι k=some p->k<N\/(∃i b,(i,b)∈dx/\hm i=true/\k=N+i)\/(N+ops.size<=k/\k<(eE h0 (N+ops.size) dJ fm).2.2)
 free:∀i,i<ops.size->ek (eE h0 (N+ops.size) dJ fm).1 i=false->(eE h0 (N+ops.size) dJ fm).2.1.get (N+i)=none
 CV:N+ops.size<=(eE h0 (N+ops.size) dJ fm).2.2
 size:a.tmps.size=n0
 gZ:a.defers=xP
theorem Inv.ia(hr:kU ops n0){dx:af}{hm:Nat->Bool}{ms fm:Nat}{E:Env}{a:Act}{w:World}(Tr:Inv ops N n0 gH h0 kO val dJ dx E0 w0 xP hm ms fm E a w){j k:Nat}(hj:hm j=true)(h:ek (iD ops j) k=true):hm k=true:=
 BS hr.vI (hm:=fun i=>hm i=true) (fun j o hs ho e he hb=>Tr.closed j o hs ho e he hb) j k hj h
theorem rG(hr:kU ops n0){hm:Nat->Bool}(hS:∀(j:Nat) (o:Oper),hm j=true->ops[j]? =some o->∀e∈o.after,Region.binds .any e=true->hm e.on=true){j k:Nat}{o:Oper}(ho:ops[j]? =some o)
  (hd:∀e∈o.after,Region.binds .any e=true->hm e.on=true) (h:ek (iD ops j) k=true):hm k=true:=by
 obtain⟨e,Q,R,h3⟩:=(xN hr.vI ho).1 h;rcases h3 with rfl|h3
 . exact hd e Q R
 . exact BS hr.vI (hm:=fun i=>hm i=true) hS e.on k (hd e Q R) h3
theorem Inv.aae(hr:kU ops n0)(f:mw P cf ops N h0 kO val dJ gH d){hm:Nat->Bool}{ms fm:Nat}{E:Env}{a:Act}{w:World}
  (Tr:Inv ops N n0 gH h0 kO val dJ d.dx E0 w0 xP hm ms fm E a w) {i:Nat} (h:ek (eE h0 (N+ops.size) dJ fm).1 i=true):hm i=true:=by
 cases fm with
 |zero=>simp[eE,jb]at h
 |succ c=>
  have K:c<dJ.length:=by have:=Tr.Zg;omega
  have he:dJ[c]? =some dJ[c]:=au K;simp only[eE,he]at h;obtain⟨_,o,_,_,h3⟩:=f.tB c _ he;rw[h3]at h;exact Tr.ia hr ((Tr.Dl c _ he).2 G) h
theorem Inv.use(hr:kU ops n0){dx:af}{hm:Nat->Bool}{ms fm:Nat}{E:Env}{a:Act}{w:World}(Tr:Inv ops N n0 gH h0 kO val dJ dx E0 w0 xP hm ms fm E a w)
  {j:Nat} {o:Oper} (ho:ops[j]? =some o) (hj:hm j=false) (hd:∀e∈o.after,Region.binds .any e=true->hm e.on=true) {F:I V} (hf:yX ops kO val j F) {t:Nat} (ht:t∈ud ops o) {v:V} (hv:F.get t=some v):
  ∃v',a.tmps[t]? =some v'/\dQ E v v':=by
 by_cases h:∃i q,i<j/\ops[i]? =some q/\q.dst=some t
 . obtain⟨i,q,Q,R,h3⟩:=h;have hu:=hr.use i j q o t R ho G h3 ht;rw[aE Q]at hu;have hi:=rG hr Tr.closed ho hd hu;have:=hf.new i q t Q R h3;rw[this]at hv;cases hv;exact Tr.f1 i q t hi R h3
 . have n7:=hf.old t fun i q hi hq hd=>h ⟨i,q,hi,hq,hd⟩;rw[n7]at hv;refine Tr.f2 t v hv fun i q hi hq KH=>?_;have ja:i≠j:=by intro e;subst e;rw[hj]at hi;cases hi
   have hu:=hr.use i j q o t hq ho ja KH ht;split at hu
   . rename_i eM;exact h ⟨i,q,eM,hq,KH⟩
   . have:=Tr.ia hr hi hu;rw[hj]at this;cases this
theorem Inv.uc(hr:kU ops n0){dx:af}{hm:Nat->Bool}{ms fm:Nat}{E:Env}{a:Act}{w:World}(Tr:Inv ops N n0 gH h0 kO val dJ dx E0 w0 xP hm ms fm E a w)
  {j:Nat} {o:Oper} (ho:ops[j]? =some o) (hj:hm j=false) (hd:∀e∈o.after,Region.binds .any e=true->hm e.on=true) {F:I V} (hf:yX ops kO val j F):∀x∈o.op.operands,mS E F a.eval x:=by
 intro x H v hv;cases x with
 |tmp t=>
  have ht:t∈ud ops o:=by
   unfold ud;refine cN _ (List.mem_filterMap.2 ⟨.tmp t,by simpa using H,rfl⟩)
  obtain⟨v',Q,R⟩:=Tr.use hr ho hj hd hf ht hv;simp only[Act.eval,bG,Q];exact R
 |const c=>exact yO hv
 |func f=>simp only[iK,aq]at hv;subst hv;exact⟨_,[],[],rfl,rfl,rfl,rfl⟩
 |global g=>exact Gk Tr.tA.good.kg hv
theorem Inv.wanted(hr:kU ops n0){dx:af}{hm:Nat->Bool}{ms fm:Nat}{E:Env}{a:Act}{w:World}(Tr:Inv ops N n0 gH h0 kO val dJ dx E0 w0 xP hm ms fm E a w)
  {j:Nat} {o:Oper} (ho:ops[j]? =some o) (hj:hm j=false) (hd:∀e∈o.after,Region.binds .any e=true->hm e.on=true) {F:I V} (hf:yX ops kO val j F) {b:Bool} (e:fP ops o F=some b):
  Region.wanted o (yielded ops a.tmps)=b:=by
 refine wj (E:=E) (fun g Ex q t hg hq hdq v hv=>?_) e;have ht:t∈ud ops o:=by
  unfold ud;refine List.mem_append_right _ ?_;simp only[hg,hq,hdq];simp
 exact Tr.use hr ho hj hd hf ht hv
theorem Inv.frame(hr:kU ops n0){dx:af}{hm:Nat->Bool}{ms fm:Nat}{E E':Env}{a:Act}{w:World}(Tr:Inv ops N n0 gH h0 kO val dJ dx E0 w0 xP hm ms fm E a w)
  {j:Nat} {o:Oper} (ho:ops[j]? =some o) (lj:E.le E') {v':Value} (hv:dQ E' (val j) v'):
  (∀(k:Nat) (q:Oper) (t:Nat),(hm k||decide (k=j))=true->ops[k]? =some q->q.dst=some t->∃v2,(a.put o.dst v').tmps[t]? =some v2/\dQ E' (val k) v2)/\
  (∀(t:Nat) (v:V),kO.get t=some v->(∀(k:Nat) (q:Oper),(hm k||decide (k=j))=true->ops[k]? =some q->q.dst≠some t)->∃v2,(a.put o.dst v').tmps[t]? =some v2/\dQ E' v v2):=by
 have EU:mU a.tmps.size o.dst:=by rw[Tr.size];exact hr.dst j o ho
 refine⟨fun k q t Y hq ht=>?_,fun t v NT ht=>?_⟩
 . by_cases c:k=j
   . subst c;rw[ho]at hq;cases hq;have:=EU t ht;exact⟨v',by simp[Act.put,ht,this],hv⟩
   . have oG:hm k=true:=by simpa[c]using Y
     obtain⟨v2,Q,R⟩:=Tr.f1 k q t oG hq ht;refine⟨v2,?_,jc lj _ _ R⟩;cases hd:o.dst with
     |none=>exact Q
     |some u=>
      have ja:u≠t:=by intro e;subst e;exact c (hr.one k j q o u hq ho ht hd)
      simp[Act.put,ja,Q]
 . obtain⟨v2,Q,R⟩:=Tr.f2 t v NT fun k q Y hq=>ht k q (by simp[Y]) hq;refine⟨v2,?_,jc lj _ _ R⟩;cases hd:o.dst with
   |none=>exact Q
   |some u=>
    have ja:u≠t:=by intro e;subst e;exact ht j o (by simp) ho hd
    simp[Act.put,ja,Q]
end
end Go.Eng
