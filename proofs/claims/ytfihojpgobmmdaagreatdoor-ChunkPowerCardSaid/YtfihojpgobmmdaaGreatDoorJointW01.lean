/- Lemmas of the engine. No conditions. -/
import Derived.Test.YtfihojpgobmmdaaGreatDoorJointW00
import Derived.Lib.UnsafeStr
import Derived.RangeFuncSeq
import Derived.TacticsIn
set_option linter.unusedVariables false
set_option linter.unusedSimpArgs false
set_option linter.unusedSectionVars false
namespace Go.Eng
open Go
section
variable{P:Program}{E:Env}{h:H rs}{n:Nat}{w:World}
theorem CN(s:B):dK E (CA s) (s.map fun b=>Value.int .u8 b.toNat):=by
 refine jN (by simp[CA]) fun i v q=>?_;simp only[CA,bu,Option.map_eq_some_iff]at q ⊢;obtain⟨b,q1,rfl⟩:=q;exact⟨_,⟨b,q1,rfl⟩,rfl⟩
theorem CO(s:B):(eo s).map (V.int .u8)=CA s:=by simp[eo,CA]
theorem CP{ks:List Int}{o T:Nat}{vs:List Value}(r:dK E (((ks.map (V.int .u8)).drop o).take T) vs):vs=((ks.drop o).take T).map (Value.int .u8):=by
 rw[<- List.map_drop,<- cN]at r;revert r;generalize (ks.drop o).take T=l;intro r
 induction l generalizing vs with
 |nil=>exact r
 |cons x l ih=>
  obtain⟨y,ys,r0,O,rfl⟩:=r;simp only[dJ]at r0;subst r0;rw[ih O];rfl
theorem KK{m b s:Nat}{t:B}(g:Good E h w)(hi:E.ι m=some (b,s))(e:u9 (h.get m)=some t):∃c el fz xs,w.heap[b]? =some (.cells c el fz)/\s=0/\eW xs=t/\∀(j:Nat) (x:Int),xs[j]? =some x->c[j]? =some (.int .u8 x):=by
 unfold u9 at e;split at e
 . rename_i el Bg t' W;cases e;obtain⟨b',s',xW,c,fz,xs,X,h2,_,_,h3,h4⟩:=g.rel m _ W;rw[hi]at xW;cases xW;exact⟨c,el,fz,xs,X,h2,h3,h4⟩
 . cases e
theorem OE{m b s:Nat}{ks:List Int}(g:Good E h w)(hi:E.ι m=some (b,s))(e:Bh (h.get m)=some ks):∃c el fz,w.heap[b]? =some (.cells c el fz)/\mH E s (ks.map (.int .u8)) c:=by
 unfold Bh at e;split at e
 . rename_i YJ W;cases e;obtain⟨b',s',xW,c,el,fz,X,_,_,h2⟩:=g.rel m _ W;rw[hi]at xW;cases xW;exact⟨c,el,fz,X,h2⟩
 . rename_i YJ W;cases e;obtain⟨b',s',xW,c,el,fz,X,_,h2⟩:=g.rel m _ W;rw[hi]at xW;cases xW;exact⟨c,el,fz,X,nh.2 h2⟩
 . cases e
theorem CQ:∀(bs:ag) (s:B) (bs':List Value),rP bs=some s->dK E bs bs'->
  ∃ns:List Int,bs'=ns.map (Value.int .u8)/\s=ns.map fun n=>UInt8.ofNat n.toNat
 | [],s,bs',e,r=>by
   simp only[rP,an]at e;subst e;simp only[dK]at r;subst r;exact⟨[],rfl,rfl⟩
 |x::xs,s,bs',e,r=>by
  obtain⟨y,ys,rx,O,rfl⟩:=r;cases x with
  |int k m=>
   cases k<;>simp only[rP]at e<;>first|(cases e;done)|skip
   cases M:rP xs with
   |none=>simp[M]at e
   |some t=>
    simp only[M,an]at e;subst e;simp only[dJ]at rx;subst rx;obtain⟨ns,X,h2⟩:=CQ xs t ys M O;exact⟨m::ns,by simp[X],by simp[h2]⟩
  |_=>simp[rP]at e
theorem tT:∀(ns:List Int) (r:ByteArray),ns.foldl (fun r n=>r.push (UInt8.ofNat n.toNat)) r=⟨r.data++(ns.map fun n=>UInt8.ofNat n.toNat).toArray⟩
 | [],r=>by simp
 |n::ns,r=>by
  simp only[List.foldl_cons];rw[tT ns];simp[ByteArray.push]
theorem KL{MW dst:TypeId}{x:V}{x':Value}{r:nx}(g:Good E h w)(hn:E.ι n=none)(rx:dJ E x x')(e:qJ P MW dst x h n=some r):
  kG P E h n w (do pure (.value (<- convert MW dst x'))) r:=by
 unfold qJ at e;split at e
 . rename_i d k k' m X h2;obtain rfl:=eE e;simp only[dJ]at rx;subst rx;refine ee g (v':=.int k (k.wrap m)) ?_ rfl;simp[convert,dz X,dz h2,Conv.intToInt]
 . rename_i d s X h2;obtain rfl:=eE e;simp only[dJ]at rx;subst rx;refine ee g (v':=.string ⟨s.toArray⟩) ?_ rfl;simp[convert,dz X,dz h2]
 . rename_i el s X h2;simp only[dJ]at rx;subst rx;split at e
   . rename_i hu;cases ho:newObj h n (.own .u8 (eo s))with
     |none=>simp[ho]at e
     |some p=>
      obtain⟨h',n'⟩:=p;simp only[ho,an]at e;subst e;have mA:(⟨s.toArray⟩:ByteArray).size=s.length:=by show s.toArray.size=_;simp
      have fU:=run_bytes_of_string w MW dst el ⟨s.toArray⟩ X h2 hu;rw[mA]at fU;have oc:s.length<=grownCap w s.length 0 el:=by simp only[grownCap,Question.cut];omega
      have J:(bytesRow ⟨s.toArray⟩ (grownCap w s.length 0 el)).size=grownCap w s.length 0 el:=by simp[bytesRow,mA];omega
      refine Ir (r:=.is .u8 (eo s)) (w1:=w.drew) (c:=bytesRow ⟨s.toArray⟩ (grownCap w s.length 0 el)) (el:=el) (fz:=((bytesRow ⟨s.toArray⟩ (grownCap w s.length 0 el)).size,(bytesRow ⟨s.toArray⟩ (grownCap w s.length 0 el)).size+1)) (v':=.slice (some ⟨w.heap.size,0,none⟩) s.length (grownCap w s.length 0 el)) g hn trivial ho rfl rfl rfl rfl ?_ ?_ ?_ ?_
      . intro i hi q;simp at q;omega
      . simp only[Sem.run_bind,fU,Result.andThen_ok,Sem.run_pure]
      . intro i v q;obtain⟨v',q1,q2⟩:=gJ (CN (E:=E) s) i v (by rw[<- CO];exact q);refine⟨v',?_,q2⟩;simp only[bytesRow,bI];rw[bT (by simpa using (aH.1 q1).1)];simpa using q1
      . refine⟨w.heap.size,0,0,grownCap w s.length 0 el,Env.ff,fun _=>rfl,aC _,oc,?_,rfl⟩;simp[Env.put,J]
   . cases e
 . rename_i el f Q X h2;have M:∃a A,x'= .slice a 0 A:=by obtain⟨a,A,_,M,_⟩:=rx.1;exact⟨a,A,M⟩
   obtain⟨a,A,rfl⟩:=M;split at e
   . rename_i hu;obtain rfl:=eE e;refine ee g (v':=.string .empty) ?_ rfl;cases a<;>simp[convert,dz X,dz h2,dz hu,Conv.bytesToString,loadCells,loadCellsFrom]
   . cases e
 . rename_i el _ _ _ X h2;obtain⟨_,_,rfl⟩:=rx;split at e
   . rename_i hu;obtain rfl:=eE e;refine ee g (v':=.string .empty) ?_ rfl;simp[convert,dz X,dz h2,dz hu,Conv.bytesToString]
   . cases e
 . rename_i el m o T A jJ X h2;split at e
   . rename_i hu;split at e
     . rename_i U1;subst U1;obtain⟨b,sh,o',gq,hi,c1,c2,c3,c4,rfl⟩:=rx;split at e
       . rename_i s0 W;split at e
         . rename_i kR;obtain rfl:=eE e;obtain⟨c,YL,fz,xs,xh,Z8,CR,Ev⟩:=KK g hi W;subst Z8;refine ee g (v':=.string ⟨((s0.drop o).take T).toArray⟩) ?_ rfl;rcases Nat.eq_zero_or_pos T with vt|Z9
           . subst vt;simp[convert,dz X,dz h2,dz hu,Conv.bytesToString,loadCells,loadCellsFrom];rfl
           . have kR:o+T<=s0.length:=kR.resolve_left L;have U2:xs.length=s0.length:=by rw[<- CR];simp[eW]
             have EL:o'=0+o:=c1 L;subst EL;have aeM:mH E 0 (xs.map (.int .u8)) c:=nh.2 (by simpa using Ev);have hb:=oC aeM (k:=o+T) L (by simp;omega);have YM:=run_loadCells (P:=P) (o:=0+o) (n:=T) xh L;rw[CP (oD aeM (by simp;omega) L)]at YM;rw[Sem.run_bind,run_convert_bytes_string w MW dst el _ T gq X hu h2,run_bytesToString w _ T gq _ YM,tT];simp[<- CR,eW,cN,List.map_drop]
         . cases e
       . split at e
         . rename_i ks W;split at e
           . rename_i kR;obtain rfl:=eE e;obtain⟨c,YL,fz,xh,Ev⟩:=OE g hi W;refine ee g (v':=.string ⟨(eW ((ks.drop o).take T)).toArray⟩) ?_ rfl;rcases Nat.eq_zero_or_pos T with vt|Z9
             . subst vt;simp[convert,dz X,dz h2,dz hu,Conv.bytesToString,loadCells,loadCellsFrom,eW];rfl
             . have kR:o+T<=ks.length:=kR.resolve_left L;have EL:o'=sh+o:=c1 L;subst EL;have hb:=oC Ev (k:=o+T) L (by simpa using kR);have YM:=run_loadCells (P:=P) (o:=sh+o) (n:=T) xh L;rw[CP (oD Ev (by simpa using kR) L)]at YM;rw[Sem.run_bind,run_convert_bytes_string w MW dst el _ T gq X hu h2,run_bytesToString w _ T gq _ YM,tT];simp[eW]
           . cases e
         . split at e
           . obtain rfl:=eE e;refine ee g (v':=.string .empty) ?_ rfl;simp[convert,dz X,dz h2,dz hu,Conv.bytesToString,loadCells,loadCellsFrom]
           . rename_i vt;split at e
             . rename_i Q W;cases J:cut Q o T with
               |none=>simp[J]at e
               |some bs=>
                simp only[J]at e;cases ht:rP bs with
                |none=>simp[ht]at e
                |some s=>
                 simp only[ht,an]at e;subst e;obtain⟨kR,rfl⟩:=Au J;have Z9:0<T:=by
                  cases T with
                  |zero=>exact absurd rfl vt
                  |succ _=>omega
                 have EL:o'=sh+o:=c1 L;subst EL;obtain⟨b',sh',xW,c,YL,fz,xh,_,_,Ev⟩:=g.rel m _ W;rw[hi]at xW;cases xW;have hb:=oC Ev (k:=o+T) L kR;have YM:=run_loadCells (P:=P) (o:=sh+o) (n:=T) xh L;obtain⟨ns,n1,n2⟩:=CQ _ s _ ht (oD Ev kR L);rw[n1]at YM;refine ee g (v':=.string ⟨s.toArray⟩) ?_ rfl;rw[Sem.run_bind,run_convert_bytes_string w MW dst el _ T gq X hu h2,run_bytesToString w _ T gq ns YM,tT,<- n2];simp
             . cases e
     . cases e
   . cases e
 . cases e
theorem Ft{t:TypeId}{i:TypeInfo}{z:V}(hi:P.info? t=some i)(hz:zeroOf P t=some z):∃z',i.zero=some z'/\(zeroValue t).run P w= .ok z' w/\dJ E z z':=by
 obtain⟨z',X,h2,i',h3,h4⟩:=mI (P:=P) (w:=w) E hz;rw[hi]at h3;cases h3;exact⟨z',h4,X,h2⟩
theorem Iv(k:IntKind)(ks:List Int):∀n,(uK ks n).map (V.int k)=ig (ks.map (V.int k)) n
 |0=>rfl
 |n+1=>by rw[uK,ig,aZ,Iv k ks n]
theorem Q4{z z':ag}(h:wk z z'):∀n,wk (ig z n) (ig z' n)
 |0=>jd _
 |n+1=>Aq h (Q4 h n)
theorem Iw(ds:ai):∀n,lf.lQ (BP ds n)=ig (lf.lQ ds) n
 |0=>rfl
 |n+1=>by rw[BP,ig,<- Iw ds n,lf.gB,lf.gB,lf.gB,aZ]
theorem MY{ds:ai}(h:∀x∈ds,x.scalar=true):∀n,∀x∈BP ds n,x.scalar=true
 |0,x,M=>by simp[BP]at M
 |n+1,x,M=>(aW.1 M).elim (h x) (MY h n x)
theorem CS(z:ag)(n:Nat):wk (ig z n) (wv z n).iZ/\(wv z n).sc:=by
 have key:∀z:ag,wk (ig z n) (match iB z with|some ds=>Row.ds (BP ds n)|none=>Row.vs (ig z n)).iZ/\(match iB z with|some ds=>Row.ds (BP ds n)|none=>Row.vs (ig z n)).sc:=by
  intro z;split
  . rename_i ds h;refine⟨?_,MY (oB h) n⟩;simp only[Row.iZ,Iw];exact Q4 (yX h) n
  . exact⟨jd _,trivial⟩
 unfold wv;split
 . rename_i k x r;split
   . rename_i ks h;refine⟨?_,trivial⟩;rw[qy h];simp only[Row.iZ,Iv];exact jd _
   . exact key _
 . exact key _
theorem GK{t:TypeId}{l c:V}{l' c':Value}{r:nx}(g:Good E h w)(hn:E.ι n=none)(rl:dJ E l l')(rc:dJ E c c')(e:ox P t l c h n=some r):
  kG P E h n w (do pure (.value (<- Instr.makeSlice t l' c'))) r:=by
 unfold ox at e;split at e
 . rename_i el k l k' c he;simp only[dJ]at rl rc;subst rl;subst rc;split at e
   . rename_i i z hi hz;simp only at e;split at e
     . rename_i hq;obtain⟨q1,q2,q3,q4,q5⟩:=hq;cases ho:newObj h n (wv z.cells (IntKind.i64.wrap c).toNat).Fo with
       |none=>simp[ho]at e
       |some p=>
        obtain⟨h',n'⟩:=p;simp only[ho,an]at e;subst e;obtain⟨z',Ql,OF,hz3⟩:=Ft (P:=P) (E:=E) (w:=w) hi hz;have hzc:=iE hz3;have QV:=CL hzc L (IntKind.i64.wrap c).toNat;rw[q2]at QV;generalize hC:(IntKind.i64.wrap c)=es at *;generalize K:(IntKind.i64.wrap l)=be at *;have hu:=It he;have mA:(sizeOf el).run P w= .ok i.size w:=by simp[sizeOf,typeInfo,hi]
        refine tQ (w1:=w) (c:=(Array.range (es.toNat*i.size)).map (z'.cells[·%z'.cells.size]!)) (el:=el) (v':=.slice (some ⟨w.heap.size,0,none⟩) be.toNat es.toNat) g hn (CS _ _).2 ho rfl rfl rfl rfl ?_ (by refine yY (CS _ _).1 ?_;exact oZ QV) ?_
        . have Q5:¬((i.bytes:Int)*es>2^48):=by omega
          simp only[Instr.makeSlice,Sem.run_bind,dz hu,Result.andThen_ok,asInt,asIntOf,Sem.run_pure,typeInfo,run_program,hi,hC,K];rw[aJ (by simp;omega)];simp only[Sem.run_bind,run_askRoom,Result.andThen_ok,mA,Sem.run_ite,Sem.run_pure,OF];by_cases h0:es.toNat*i.size=0
          . rw[aF h0];have e0:∀f:Nat->Value,Array.map f (Array.range 0)=#[]:=fun f=>by apply Array.ext' ;simp
            simp[h0,newRow,e0]
          . rw[aJ h0];simp[newRow]
        . refine⟨w.heap.size,0,0,es.toNat,Env.ff,fun _=>rfl,L,aC _,?_,rfl⟩;simp[Env.put]
     . cases e
   . cases e
 . cases e
theorem Ix{size k:Nat}{x:V}{new:Row}{x':Value}(g:Good E h w)(r:dJ E x x')(e:jL h size x=some (k,new)):
  (∀w1:World,(Builtin.lenOf x').run P w1= .ok k w1)/\new.iZ.length=k*size/\new.sc/\
   ∃kQ:Array Value,(∀w1:World,w1.heap=w.heap->(Builtin.firstCells size k x').run P w1= .ok kQ w1)/\dK E new.iZ kQ.toList:=by
 unfold jL at e;split at e
 . rename_i T _ _;split at e
   . rename_i hl;obtain⟨rfl,rfl⟩:=fg e;obtain⟨_,_,rfl⟩:=r;exact⟨fun _=>rfl,by simp[Row.iZ],trivial,#[],fun _ _=>rfl,by simp[dK,Row.iZ]⟩
   . cases e
 . rename_i m o T A jJ;split at e
   . rename_i U1;subst U1;obtain⟨b,sh,o',gq,hi,c1,c2,c3,c4,rfl⟩:=r;split at e
     . obtain⟨rfl,rfl⟩:=fg e;refine⟨fun _=>rfl,by simp[Row.iZ],trivial,#[],fun _ _=>?_,by simp[dK,Row.iZ]⟩;simp[Builtin.firstCells,loadCells,loadCellsFrom]
     . rename_i vt;split at e
       . rename_i ob W;split at e
         . rename_i rw0 xX;cases qn:rw0.cut o (T*jJ)with
           |none=>simp[qn]at e
           |some x=>
            simp only[qn,an,aB]at e;obtain⟨rfl,rfl⟩:=e;obtain⟨kR,M⟩:=Au (Row.Gz qn);have Z9:0<T:=by
             cases T with
             |zero=>exact absurd rfl vt
             |succ _=>omega
            have EL:o'=sh+o:=c1 L;subst EL;obtain⟨b',sh',xW,q0⟩:=g.rel m _ W;obtain⟨⟨c,YL,fz,xh,mA,Ev⟩,KC⟩:=OA xX q0;rw[hi]at xW;cases xW;have Aw:sh+o+T*jJ<=c.size:=by
             have:T*jJ<=gq*jJ:=cz _ L;omega
            refine⟨fun _=>rfl,by rw[M];simp;omega,Row.QK qn KC,((c.toList.drop (sh+o)).take (T*jJ)).toArray,fun w1 Fq=>?_,by rw[M];simpa using oD Ev kR Aw⟩;simp only[Builtin.firstCells];exact run_loadCells (by rw[Fq];exact xh) Aw
         . cases e
       . cases e
   . cases e
 . rename_i s;split at e
   . rename_i fQ;obtain⟨rfl,rfl⟩:=fg e;simp only[dJ]at r;subst r;have mA:(⟨s.toArray⟩:ByteArray).size=s.length:=by show s.toArray.size=_;simp
     refine⟨fun _=>?_,by simp[eo,fQ,Row.iZ],trivial,(s.map fun b=>Value.int .u8 b.toNat).toArray,fun w1 _=>?_,by simp only[Row.iZ,CO];exact CN s⟩
     . simp[Builtin.lenOf,mA]
     . simp only[Builtin.firstCells,Sem.run_pure];congr 1;apply Array.ext';simp
   . cases e
 . rename_i f T Q;split at e
   . rename_i hl;obtain⟨rfl,rfl⟩:=fg e;obtain⟨⟨a,A,vs,rfl,oc,hd,h0,mT⟩,_⟩:=r;have hvl:=qj hd;refine⟨fun _=>rfl,by simp only[Row.iZ,lf.gB,bf];exact hl,jr hd,vs.toArray,fun w1 Fq=>?_,by simpa[Row.iZ]using wC _ _ hd⟩;rcases Nat.eq_zero_or_pos T with hz|hp
     . have:=h0 hz;subst this;have hv:vs=[]:=by simpa using hvl
       subst hv;subst hz;cases a<;>simp[Builtin.firstCells,loadCells,loadCellsFrom]
     . obtain⟨b,o,c,rfl,B7,J⟩:=mT hp;obtain⟨⟨el,fz,xh⟩,_⟩:=g.gX b c B7;have aeN:(c.toList.drop o).take (T*size)=vs:=by
        apply List.ext_getElem?;intro j;rw[bQ,bL];by_cases hj:j<T*size
        . rw[aF hj];have hj2:j<vs.length:=by omega
          have:=J j _ (az hj2);rw[az hj2,<- this];simp
        . rw[aJ hj,bS L]
       simp only[Builtin.firstCells];rcases Nat.eq_zero_or_pos (T*size)with q|q
       . have hn:vs=[]:=by simpa[hl,q]using hvl
         subst hn;rw[q];rfl
       . have Aw:o+T*size<=c.size:=by
          have:((c.toList.drop o).take (T*size)).length=T*size:=by rw[aeN];omega
          simp at this;omega
         rw[run_loadCells (by rw[Fq];exact xh) Aw,aeN]
   . cases e
 . cases e
end
section
variable{P:Program}{E:Env}{h:H rs}{n:Nat}{w:World}
theorem nL(z:Array Value)(k:Nat):(Builtin.zeroCells z k).size=k*z.size:=by simp[Builtin.zeroCells]
theorem CT{Oy size bytes:Nat}(q:fa Oy size bytes=true):Oy*bytes<=281474976710/\Oy*size<=281474976710:=by
 simpa[fa]using q
theorem uG{b o:Nat}{el:TypeId}{fz:Nat×Nat}:∀(vs:List Value) (i:Nat) (w:World) (c:Array Value),w.heap[b]? =some (.cells c el fz)->
  (∀j,o+i<=j->j<o+i+vs.length->¬(fz.1<=j/\j<fz.2))->(∀v∈vs,v.oneCell'=true)->o+i+vs.length<=c.size->
  ∃w',(storeCells ⟨b,o,none⟩ vs i).run P w= .ok () w'/\w'.heap[b]? =some (.cells (putCells c (o+i) vs) el fz)/\w'.heap.size=w.heap.size/\w'.tape=w.tape/\w'.os=w.os/\w'.output=w.output/\
   ∀x,x≠b->w'.heap[x]? =w.heap[x]?
 | [],i,w,c,h,_,_,hn=>by
   refine⟨w,rfl,?_,rfl,rfl,rfl,rfl,fun _ _=>rfl⟩;rw[h];have:putCells c (o+i) []=c:=by simp[putCells]
   rw[this]
 |v::vs,i,w,c,h,hf,hv,hn=>by
  simp only[aT]at hn hf;have fH:o+i<c.size:=by omega
  have hnf:w.frozen? ⟨b,o+i,none⟩=false:=by
   have:=hf (o+i) (aC _) L;simp only[World.frozen?,h];simpa using this
  let w1:=w.setCell ⟨b,o+i,none⟩ v
  have Fq:w1.heap[b]? =some (.cells (c.setIfInBounds (o+i) v) el fz):=by
   simp[w1,World.setCell,cr,h]
  obtain⟨w',e1,e2,e3,e4,e5,e6,e7⟩:=uG (o:=o) vs (i+1) w1 (c.setIfInBounds (o+i) v) Fq (fun j X h2=>hf j L L) (fun v hv'=>hv v (by simp[hv'])) (by simp only[Array.size_setIfInBounds];omega);refine⟨w',?_,?_,by rw[e3];simp[w1],by rw[e4];rfl,by rw[e5];rfl,by rw[e6];rfl,?_⟩
  . simp only[storeCells,Sem.run_bind];rw[run_store P w _ v .plain (hv v (by simp)),Addr.jk,nH h,bq fH];simp only[hnf,aP,cJ,Result.andThen_ok];exact e1
  . rw[e2];have:o+(i+1)=o+i+1:=by omega
    rw[this,su L]
  . intro x M;rw[e7 x M];simp[w1,World.setCell,cr,Ne.symm M]
theorem ze:∀{l:ag} {t:B},vh l=some t->∃xs:List Int,l=xs.map (.int .u8)/\eW xs=t
 | [],t,h=>by simp only[vh,an]at h;subst h;exact⟨[],rfl,rfl⟩
 |v::r,t,h=>by
  unfold vh at h;split at h
  . rename_i q;cases q
  . rename_i x r' q;cases q;split at h
    . rename_i l hl;obtain rfl:=eE h;obtain⟨xs,X,h2⟩:=ze hl;exact⟨x::xs,by rw[X];rfl,by rw[<- h2];rfl⟩
    . cases h
  . cases h
theorem GL{r:Row}{t:B}(h:vi r=some t):∃xs:List Int,r.iZ=xs.map (.int .u8)/\eW xs=t:=by
 unfold vi at h;split at h
 . rename_i ks;cases h;exact⟨ks,rfl,rfl⟩
 . exact ze h
 . cases h
theorem OG{xs:List Int}{l:List Value}(r:dK E (xs.map (.int .u8)) l):l=xs.map (.int .u8):=by
 induction xs generalizing l with
 |nil=>exact r
 |cons x xs ih=>
  obtain⟨y,ys,r0,O,rfl⟩:=r;simp only[dJ]at r0;subst r0;rw[ih O];rfl
theorem gu:∀t:B,eW (eo t)=t
 | []=>rfl
 |b::r=>by
  have ih:=gu r;simp only[eW,eo,bX,List.map_map]at ih ⊢;rw[ih];simp
theorem vu(xs:List Int):(eW xs).length=xs.length:=by simp[eW]
section
variable{st xt el ty:TypeId}{xd:TypeDesc}{i:TypeInfo}
theorem mq{z':Value}(hu:P.underlying st=some (.slice el))(M:P.underlying xt=some xd)(OH:(∃y,xd= .slice y)\/xd= .string)
  (hi:P.info? el=some i) (hz:i.zero=some z') {base:Option Addr} {sLen sCap k:Nat} {x':Value} {old new:Array Value}
  (ja:∀w1:World,(Builtin.lenOf x').run P w1= .ok k w1) (pb:∀w1:World,w1.heap=w.heap->(Builtin.firstCells i.size sLen (.slice base sLen sCap)).run P w1= .ok old w1)
  (tO:∀w1:World,w1.heap=w.heap->(Builtin.firstCells i.size k x').run P w1= .ok new w1)
  (oc:sCap<sLen+k) (hb:0<i.bytes) (rU:(sLen+k)*i.bytes<=281474976710):
  (Builtin.append_ #[st,xt] ty #[.slice base sLen sCap,x']).run P w=
   .ok (.slice (some ⟨w.heap.size,0,none⟩) (sLen+k) (grownCap w (sLen+k) sCap el))
    (w.drew.alloc (.cells (old++new++Builtin.zeroCells z'.cells (grownCap w (sLen+k) sCap el-(sLen+k))) el)):=by
 have EM:Builtin.nextslicecap (sLen+k) sCap*i.bytes<=281474976710656:=growslice_fits oc L;have rV:¬(sLen+k<=sCap):=by omega
 have YN:¬(281474976710656<Builtin.nextslicecap (sLen+k) sCap*i.bytes):=by omega
 have Ia:¬(i.bytes=0):=by omega
 have ho:=pb w.drew rfl;have hn:=tO w.drew rfl;rcases OH with⟨y,rfl⟩|rfl
 . simp[Builtin.append_,dz hu,dz M,sizeOf,typeInfo,zeroValue,hi,hz,ja,rV,YN,Ia,Question.forced,newRow,grownCap,ho,hn]
 . simp[Builtin.append_,dz hu,dz M,sizeOf,typeInfo,zeroValue,hi,hz,ja,rV,YN,Ia,Question.forced,newRow,grownCap,ho,hn]
theorem run_append_room(hu:P.underlying st=some (.slice el))(M:P.underlying xt=some xd)(OH:(∃y,xd= .slice y)\/xd= .string)
  (hi:P.info? el=some i) {base:Option Addr} {sLen sCap k:Nat} {x':Value} {new:Array Value}
  (ja:∀w1:World,(Builtin.lenOf x').run P w1= .ok k w1) (tO:(Builtin.firstCells i.size k x').run P w= .ok new w) (oc:sLen+k<=sCap):
  (Builtin.append_ #[st,xt] ty #[.slice base sLen sCap,x']).run P w=
   ((match base with|some a=>storeCells (a.add (sLen*i.size)) new.toList|none=>pure ()).run P w).andThen fun _ w'=>.ok (.slice base (sLen+k) sCap) w':=by
 rcases OH with⟨y,rfl⟩|rfl
 . cases base<;>simp[Builtin.append_,dz hu,dz M,sizeOf,typeInfo,hi,ja,oc,tO]
 . cases base<;>simp[Builtin.append_,dz hu,dz M,sizeOf,typeInfo,hi,ja,oc,tO]
end
theorem OI{eH:Array TypeId}{ty:TypeId}{args:ag}{dm:List Value}{r:nx}(g:Good E h w)(hn:E.ι n=none)(ra:dK E args dm)
  (e:yU P eH args h n=some r) (ha:eH.size=2):kG P E h n w (do pure (.value (<- Builtin.append_ eH ty dm.toArray))) r:=by
 unfold yU at e;split at e
 . rename_i st xt s x X h2;obtain⟨s',_,O,⟨x',_,rx,qP,rfl⟩,rfl⟩:=ra;simp only[dK]at qP;subst qP;have kL:eH=#[st,xt]:=by
    apply Array.ext
    . simpa using ha
    . intro i q1 q2;have:i=0\/i=1:=by simp at q2;omega
      rcases this with rfl|rfl
      . rw[bq q1]at X;simpa using X
      . rw[bq q1]at h2;simpa using h2
   subst kL;split at e
   . rename_i el xd he M;split at e
     . rename_i i z aab hi hz;have OH:(∃y,xd= .slice y)\/xd= .string:=by
        unfold Kv at aab;split at aab
        . exact .inl ⟨_,rfl⟩
        . exact .inr rfl
        . cases aab
       have hu:=It he;split at e
       . rename_i hq;obtain⟨q1,q2,q3⟩:=hq;obtain⟨z',Ql,OF,hz3⟩:=Ft (P:=P) (E:=E) (w:=w) hi hz;have YO:z'.cells.size=i.size:=by have:=eR (iE hz3);simp at this;omega
         split at e
         . rename_i k new ht;obtain⟨t1,t2,tsc,kQ,t3,t4⟩:=Ix g rx ht;have KI:kQ.size=k*i.size:=by have:=eR t4;simp at this;omega
           split at e
           . rename_i akM;have KC:=Row.QL akM tsc;split at e
             ·
              obtain⟨_,qn,rfl⟩:=O;split at e
              . obtain rfl:=eE e;refine ee g (v':=.slice none 0 0) ?_ ⟨rfl,rfl,rfl⟩;rw[Sem.run_bind,run_append_room hu M OH hi t1 (t3 w rfl) L];rfl
              . rename_i OB;have hk:0<k:=by
                 cases k with
                 |zero=>exact absurd rfl OB
                 |succ _=>omega
                split at e
                . rename_i rU;cases ho:newObj h n (CC el x new)with
                  |none=>simp[ho]at e
                  |some p=>
                   obtain⟨h',n'⟩:=p;simp only[ho,an]at e;subst e;obtain⟨r1,r2⟩:=CT rU;have fU:=mq (w:=w) (ty:=ty) hu M OH hi Ql (base:=none) (sLen:=0) (sCap:=0) (x':=x') (old:=#[]) t1 (fun _ _=>rfl) t3 L q2 (by simpa using r1);simp only[bI]at fU;have oc:k<=grownCap w k 0 el:=by simp only[grownCap,Question.cut];omega
                   have mA:(#[]++kQ++Builtin.zeroCells z'.cells (grownCap w k 0 el-k)).size=grownCap w k 0 el*i.size:=by
                    simp only[Array.size_append,nL,YO,KI,Array.size_empty];rw[bI,<- cQ];congr 1;omega
                   have Ev:mH E 0 new.iZ (#[]++kQ++Builtin.zeroCells z'.cells (grownCap w k 0 el-k)):=by
                    intro j v q;obtain⟨v',p1,p2⟩:=gJ t4 j v q;refine⟨v',?_,p2⟩;have hj:j<kQ.size:=by have:=(aH.1 p1).1;simpa using this
                    rw[bT (by simp;omega)];simpa using p1
                   have hvs:dJ (E.put n w.heap.size 0 (#[]++kQ++Builtin.zeroCells z'.cells (grownCap w k 0 el-k)).size) (.dx (some (n,0)) k k i.size) (.slice (some ⟨w.heap.size,0,none⟩) k (grownCap w k 0 el)):=by
                    refine⟨w.heap.size,0,0,grownCap w k 0 el,Env.ff,fun _=>rfl,aC _,oc,?_,rfl⟩;rw[mA];simp[Env.put]
                   have B8:(do pure (.value (<- Builtin.append_ #[st,xt] ty #[.slice none 0 0,x'])):Sem Next).run P w= .ok (.value (.slice (some ⟨w.heap.size,0,none⟩) k (grownCap w k 0 el))) (w.drew.alloc (.cells (#[]++kQ++Builtin.zeroCells z'.cells (grownCap w k 0 el-k)) el)):=by
                    simp only[Sem.run_bind,fU,Result.andThen_ok,Sem.run_pure]
                   unfold CC at ho;split at ho
                   . rename_i t;obtain⟨gT,rfl,rfl⟩:=lj ho;simp only[jL]at ht;split at ht
                     case isFalse=>cases ht
                     rename_i fQ;obtain⟨rfl,rfl⟩:=fg ht;have oF:=nh.1 Ev;have ua:=iI.alloc (n:=n) (ob:=.cells (#[]++kQ++Builtin.zeroCells z'.cells (grownCap w t.length 0 el-t.length)) el) (o:=.ia el false t) (w:=w.drew) (g.same rfl) hn gT (by
                      refine⟨_,_,eo t,heap_alloc_new,rfl,by simp[Env.put,kr],⟨.inl rfl,fun _=>rfl⟩,gu t,fun j x M=>?_⟩;have:=oF j x M;simpa using this)
                     exact⟨_,_,_,.inl B8,hvs,(iI.drew g).trans ua,fun m' tN=>Env.fG tN,.inr rfl⟩
                   . exact tQ (r:=new) (w1:=w.drew) (c:=#[]++kQ++Builtin.zeroCells z'.cells (grownCap w k 0 el-k)) (el:=el) g hn tsc ho rfl rfl rfl rfl B8 Ev hvs
                . cases e
             ·
              rename_i T Q _;obtain⟨⟨a,A,vs,rfl,oc,hd,Vu,mT⟩,za⟩:=O;obtain⟨_,za⟩:=za rfl;simp only[Value.slice.injEq]at za;obtain⟨_,_,hq⟩:=za;have hq:=hq.symm;subst hq;split at e
              . obtain rfl:=eE e;refine ee g (v':=.slice a T T) ?_ ⟨⟨a,T,vs,rfl,oc,hd,Vu,mT⟩,fun _=>⟨a,rfl⟩⟩;rw[Sem.run_bind,run_append_room hu M OH hi t1 (t3 w rfl) L];have Vu:kQ.toList=[]:=by simp at t2;simpa[t2]using eR t4
                rw[Vu];cases a<;>rfl
              . rename_i OB;have hk:0<k:=by
                 cases k with
                 |zero=>exact absurd rfl OB
                 |succ _=>omega
                split at e
                . rename_i rU;obtain⟨rU,hl⟩:=rU;cases ho:newObj h n ((Row.ds Q).app new).Fo with
                  |none=>simp[ho]at e
                  |some p=>
                   obtain⟨h',n'⟩:=p;simp only[ho,an]at e;subst e;obtain⟨r1,r2⟩:=CT rU;obtain⟨t1',_,_,BR,t3',t4'⟩:=Ix (P:=P) (size:=i.size) (x:=.dV true T Q) (x':=.slice a T T) g ⟨⟨a,T,vs,rfl,oc,hd,Vu,mT⟩,fun _=>⟨a,rfl⟩⟩ (k:=T) (new:=.ds Q) (by simp only[jL,aF hl]);have fU:=mq (w:=w) (ty:=ty) hu M OH hi Ql (base:=a) (sLen:=T) (sCap:=T) (x':=x') (old:=BR) t1 t3' t3 L q2 r1;have oc:T+k<=grownCap w (T+k) T el:=by simp only[grownCap,Question.cut];omega
                   have hol:BR.size=T*i.size:=by have:=eR t4';simp[Row.iZ,lf.gB,hl]at this;omega
                   have mA:(BR++kQ++Builtin.zeroCells z'.cells (grownCap w (T+k) T el-(T+k))).size=grownCap w (T+k) T el*i.size:=by
                    simp only[Array.size_append,nL,YO,KI,hol];rw[<- cQ,<- cQ];congr 1;omega
                   refine tQ (r:=(Row.ds Q).app new) (w1:=w.drew) (c:=BR++kQ++Builtin.zeroCells z'.cells (grownCap w (T+k) T el-(T+k))) (el:=el) (v':=.slice (some ⟨w.heap.size,0,none⟩) (T+k) (grownCap w (T+k) T el)) g hn (Row.KE (jr hd) tsc) ho rfl rfl rfl rfl ?_ ?_ ?_
                   . simp only[Sem.run_bind,fU,Result.andThen_ok,Sem.run_pure]
                   . refine yY (Row.KD _ _) ?_;intro j v q;have q':=iM t4' t4;obtain⟨v',p1,p2⟩:=gJ q' j v q;refine⟨v',?_,p2⟩;have hj:=(aH.1 p1).1;rw[bT (by simp at hj ⊢;omega)];rw[<- bN];simpa using p1
                   . refine⟨w.heap.size,0,0,grownCap w (T+k) T el,Env.ff,fun _=>rfl,aC _,oc,?_,rfl⟩;rw[mA];simp[Env.put]
                . cases e
             ·
              rename_i m o T A jJ _;split at e
              . rename_i hq2;obtain⟨u1,u2,u3⟩:=hq2;subst u1;obtain⟨b,sh,o',gq,kS,c1,c2,c3,c4,rfl⟩:=O;obtain⟨r1,r2⟩:=CT u2;split at e
                ·
                 rename_i Vv Bg s0 W;split at e
                 case h_2=>cases e
                 rename_i t ht;split at e
                 case isFalse=>cases e
                 rename_i aeP;obtain⟨⟨ho0,aeQ⟩,⟨ja,za⟩,EN,akO⟩:=aeP;obtain⟨b',sh',xW,c,fz,xs,xh,Z8,mA,⟨B7,KM⟩,CR,mJ⟩:=g.rel m _ W;rw[kS]at xW;cases xW;subst Z8;have EL:o'=0:=by have:=c1 aeQ;omega
                 subst EL;obtain⟨ys,hy1,hy2⟩:=GL ht;rw[hy1]at t4;have hnv:=OG t4;have auo:xs.length=s0.length:=by rw[<- CR,vu]
                 generalize hX:xs.take T=Q6;have U2:Q6.length=T:=by rw[<- hX,aY];omega
                 have Vx:∀(j:Nat) (x:Int),Q6[j]? =some x->c[j]? =some (.int .u8 x):=fun j x M=>by
                  rw[<- hX,bQ]at M;split at M
                  . exact mJ j x M
                  . cases M
                 have hyl:ys.length=k:=by have:=aL List.length hy1;simp at this;rw[<- this,t2,EN];omega
                 cases ho:newObj (h.set m none) n (.ia Vv Bg (s0.take T++t))with
                 |none=>simp[ho]at e
                 |some p=>
                  obtain⟨h',n'⟩:=p;simp only[ho,an]at e;subst e;subst akO;obtain⟨gT,rfl,rfl⟩:=lj ho;have aac:eW (Q6++ys)=s0.take T++t:=by rw[<- hX,<- CR,<- hy2];simp[eW,cN]
                  have htl:(s0.take T++t).length=T+k:=by rw[<- aac,vu,ay,U2,hyl]
                  by_cases rU:T+k<=gq
                  ·
                   have YP:0+(T+k)*i.size<=c.size:=by
                    have:(T+k)*i.size<=gq*i.size:=cz _ rU;omega
                   rw[EN]at YP c4;have KH:∀v∈kQ.toList,v.oneCell'=true:=by
                    intro v hv;rw[hnv]at hv;obtain⟨x,_,rfl⟩:=bF.1 hv;rfl
                   have Vo:kQ.toList.length=k:=by rw[hnv,bf,hyl]
                   obtain⟨w',e1,e2,e3,e4,e5,e6,e7⟩:=uG (P:=P) (o:=T) kQ.toList 0 w c xh (fun j X h2 h3=>by
                    have hj:j<c.size:=by omega
                    cases Bg with
                    |true=>
                     have:=za rfl;omega
                    |false=>have:=KM rfl;omega) KH L
                   have ni:T+kQ.toList.length<=c.size:=by omega
                   have KN:=iI.move (n:=n) (s':=0) (o:=.ia Vv Bg (s0.take T++t)) g u3 gT hn ⟨_,W,rfl⟩ kS e3 e4 e5 e6 e7 (by
                    refine⟨_,fz,Q6++ys,e2,rfl,by rw[Nat.add_zero,jU ni];simp[Env.put,mA],⟨?_,KM⟩,aac,fun j x M=>?_⟩
                    . rw[htl];cases Bg with
                      |true=>have:=za rfl;omega
                      |false=>exact .inl (KM rfl)
                    . rw[Nat.add_zero,nI ni];by_cases hj:j<T
                      . rw[bB L]at M;rw[aJ L];exact Vx j x M
                      . rw[cq L,U2]at M;have hj2:j-T<ys.length:=(aH.1 M).1;rw[aF L,hnv,bu,M];rfl)
                   refine⟨_,w',.slice (some ⟨b,0,none⟩) (T+k) gq,.inl ?_,?_,KN,fun m' tN=>Env.fG tN,.inr rfl⟩
                   . rw[Sem.run_bind,run_append_room hu M OH hi t1 (t3 w rfl) rU];simp only[Addr.jk,EN,bn,bI,e1,Result.andThen_ok,Sem.run_pure]
                   . refine⟨b,0,0,gq,Env.ff,fun _=>rfl,aC _,rU,?_,rfl⟩;simpa[Env.put,EN]using c4
                  ·
                   have v1:0+T*i.size<=c.size:=by
                    have:T*i.size<=gq*i.size:=cz _ L;omega
                   have pb:(c.toList.drop 0).take (T*i.size)=Q6.map (Value.int .u8):=by
                    rw[EN,bn]at *;apply List.ext_getElem?;intro j;rw[bQ,bu];by_cases hj:j<T
                    . rw[aF hj,bw];have hj2:j<Q6.length:=by omega
                      rw[az hj2];have:=Vx j _ (az hj2);simpa using this
                    . rw[aJ hj,bS L];rfl
                   have hf:∀w1:World,w1.heap=w.heap->(Builtin.firstCells i.size T (.slice (some ⟨b,0,none⟩) T gq)).run P w1= .ok ((c.toList.drop 0).take (T*i.size)).toArray w1:=fun w1 Fq=>by
                    simp only[Builtin.firstCells];exact run_loadCells (by rw[Fq];exact xh) v1
                   have fU:=mq (w:=w) (ty:=ty) hu M OH hi Ql t1 hf t3 L q2 r1;have oc:T+k<=grownCap w (T+k) gq Vv:=by simp only[grownCap,Question.cut];omega
                   have uf:=iI.forget g u3;rw[pb]at fU;have Bm:((Q6.map (Value.int .u8)).toArray).size=T:=by simp[U2]
                   have Vo:kQ.size=k:=by rw[KI,EN,bn]
                   generalize hC:((Q6.map (Value.int .u8)).toArray++kQ++Builtin.zeroCells z'.cells (grownCap w (T+k) gq Vv-(T+k)))=es at fU;have hCs:es.size=grownCap w (T+k) gq Vv*i.size:=by
                    rw[<- hC,Array.size_append,Array.size_append,nL,YO,Vo,Bm,EN,bn,bn];omega
                   have ua:=iI.alloc (n:=n) (ob:=.cells es Vv) (o:=.ia Vv Bg (s0.take T++t)) (w:=w.drew) (uf.good.same rfl) hn gT (by
                    refine⟨es,_,Q6++ys,heap_alloc_new,rfl,by simp[Env.put,kr],⟨.inl rfl,fun _=>rfl⟩,aac,fun j x M=>?_⟩;rw[<- hC];have Kq:j<(Q6++ys).length:=(aH.1 M).1;rw[ay]at Kq;rw[bT (by rw[Array.size_append,Bm,Vo];omega)];by_cases hj:j<T
                    . rw[bB L]at M;rw[bT L];simp[M]
                    . rw[cq L]at M;rw[Array.getElem?_append_right L,Bm,<- bN,hnv,bu,<- U2,M];rfl)
                   refine⟨_,_,.slice (some ⟨w.heap.size,0,none⟩) (T+k) (grownCap w (T+k) gq Vv),.inl (by simp only[Sem.run_bind,fU,Result.andThen_ok,Sem.run_pure]),?_,(uf.trans (iI.drew uf.good)).trans ua,fun m' tN=>Env.fG tN,.inr rfl⟩;refine⟨w.heap.size,0,0,grownCap w (T+k) gq Vv,Env.ff,fun _=>rfl,aC _,oc,?_,rfl⟩;simp[Env.put,kr,hCs]
                . rename_i ob _ W;split at e
                  . rename_i rw0 xX;obtain⟨b',sh',xW,q0⟩:=g.rel m _ W;obtain⟨⟨c,YL,fz,xh,mA,KM,Ev⟩,Z5⟩:=Ip xX q0;rw[kS]at xW;cases xW;split at e
                    . rename_i old pb;have aeR:old.sc/\o'+T*i.size<=c.size/\dK E old.iZ ((c.toList.drop o').take (T*i.size)):=by
                       have Ia:T*i.size<=gq*i.size:=cz _ L;refine⟨?_,L,?_⟩
                       . split at pb
                         . obtain rfl:=eE pb;trivial
                         . exact Row.QK pb Z5
                       split at pb
                       . rename_i vt;obtain⟨_,rfl⟩:=vt;obtain rfl:=eE pb;simp[dK,Row.iZ]
                       . rename_i vt;rcases Nat.eq_zero_or_pos T with hlz|hl
                         . obtain⟨_,Q7⟩:=Au (Row.Gz pb);rw[Q7,hlz];simp[dK]
                         obtain⟨kR,Q7⟩:=Au (Row.Gz pb);rw[Q7];have EL:o'=sh+o:=c1 L;subst EL;exact oD Ev kR L
                      obtain⟨aeS,v1,v2⟩:=aeR;have hol:old.iZ.length=T*i.size:=by have:=eR v2;simp at this;omega
                      split at e
                      . rename_i OB;obtain⟨_,hk1⟩:=OB;obtain rfl:=eE e;subst hk1;refine ee g (v':=.slice (some ⟨b,o',none⟩) T gq) ?_ ⟨b,sh,o',gq,kS,c1,c2,c3,c4,rfl⟩;have Vu:kQ.toList=[]:=by simp at KI;simp[KI]
                        rw[Sem.run_bind,run_append_room hu M OH hi t1 (t3 w rfl) L,Vu];rfl
                      . rename_i OB;cases ho:newObj (h.set m none) n (old.app new).Fo with
                        |none=>simp[ho]at e
                        |some p=>
                         obtain⟨h',n'⟩:=p;simp only[ho,an]at e;subst e;obtain⟨gT,rfl,rfl⟩:=lj ho;by_cases rU:T+k<=gq
                         ·
                          have YP:o'+(T+k)*i.size<=c.size:=by
                           have:(T+k)*i.size<=gq*i.size:=cz _ rU;omega
                          have aus:(T+k)*i.size=T*i.size+k*i.size:=cQ _ _ _;have KH:∀v∈kQ.toList,v.oneCell'=true:=by
                           intro v hv;obtain⟨j,hj⟩:=List.getElem?_of_mem hv;have fH:j<new.iZ.length:=by rw[<- eR t4];exact(aH.1 hj).1
                           obtain⟨v',p1,p2⟩:=gJ t4 j new.iZ[j] (az fH);rw[hj]at p1;cases p1;exact vn p2 (by rw[bt]at KC;exact KC _ (b9 fH))
                          obtain⟨w',e1,e2,e3,e4,e5,e6,e7⟩:=nJ (P:=P) (o:=o'+T*i.size) kQ.toList 0 w c xh KM KH (by simp;omega);have ni:o'+T*i.size+kQ.toList.length<=c.size:=by simp;omega
                          have KN:=iI.move (n:=n) (s':=o') (o:=(old.app new).Fo) g u3 gT hn ⟨_,W,QM xX⟩ kS e3 e4 e5 e6 e7 (by
                           have kR:E.le (E.put n b o' (E.β b)):=Env.sq hn fun _ _ _ _ _=>rfl;refine yZ ⟨_,YL,fz,e2,by rw[jU (by simpa using ni)];simp[Env.put,mA],by rw[jU (by simpa using ni)];exact KM,?_⟩ (Row.KE aeS tsc);refine yY (Row.KD _ _) ?_;refine qx kR ?_;intro j v q;rw[nI (by simpa using ni)];by_cases hj:j<T*i.size
                           . rw[bB L]at q;rw[aJ L];obtain⟨v',p1,p2⟩:=gJ v2 j v q;refine⟨v',?_,p2⟩;rw[bQ,aF hj,bL]at p1;simpa using p1
                           . rw[cq L,hol]at q;have hj2:j-T*i.size<new.iZ.length:=(aH.1 q).1;rw[aF (by simp;omega)];obtain⟨v',p1,p2⟩:=gJ t4 _ v q;refine⟨v',?_,p2⟩;rw[<- p1];congr 1;omega)
                          refine⟨_,w',.slice (some ⟨b,o',none⟩) (T+k) gq,.inl ?_,?_,KN,fun m' tN=>Env.fG tN,.inr rfl⟩
                          . rw[Sem.run_bind,run_append_room hu M OH hi t1 (t3 w rfl) rU];simp only[Addr.jk,e1,Result.andThen_ok,Sem.run_pure]
                          . refine⟨b,o',o',gq,Env.ff,fun _=>rfl,aC _,rU,?_,rfl⟩;simpa[Env.put]using c4
                         ·
                          have hf:∀w1:World,w1.heap=w.heap->(Builtin.firstCells i.size T (.slice (some ⟨b,o',none⟩) T gq)).run P w1= .ok ((c.toList.drop o').take (T*i.size)).toArray w1:=fun w1 Fq=>by
                           simp only[Builtin.firstCells];exact run_loadCells (by rw[Fq];exact xh) v1
                          have fU:=mq (w:=w) (ty:=ty) hu M OH hi Ql t1 hf t3 L q2 r1;have oc:T+k<=grownCap w (T+k) gq el:=by simp only[grownCap,Question.cut];omega
                          have uf:=iI.forget g u3;have Bm:((c.toList.drop o').take (T*i.size)).toArray.size=T*i.size:=by simp;omega
                          have Iy:(((c.toList.drop o').take (T*i.size)).toArray++kQ++Builtin.zeroCells z'.cells (grownCap w (T+k) gq el-(T+k))).size=grownCap w (T+k) gq el*i.size:=by
                           rw[Array.size_append,Array.size_append,nL,YO,KI,Bm];rw[<- cQ,<- cQ];congr 1;omega
                          obtain⟨E',w',v',p1,p2,p3,p4,p5⟩:=tQ (P:=P) (r:=old.app new) (s:=(do pure (.value (<- Builtin.append_ #[st,xt] ty #[.slice (some ⟨b,o',none⟩) T gq,x'])):Sem Next))
                           (v:=.dx (some (n,0)) (T+k) (T+k) i.size) (w1:=w.drew) (c:=((c.toList.drop o').take (T*i.size)).toArray++kQ++Builtin.zeroCells z'.cells (grownCap w (T+k) gq el-(T+k))) (el:=el)
                           (v':=.slice (some ⟨w.heap.size,0,none⟩) (T+k) (grownCap w (T+k) gq el)) uf.good hn (Row.KE aeS tsc) ho rfl rfl rfl rfl
                           (by simp only[Sem.run_bind,fU,Result.andThen_ok,Sem.run_pure])
                           (by
                            refine yY (Row.KD _ _) ?_;intro j v q;have q':=iM v2 t4;obtain⟨v',p1,p2⟩:=gJ q' j v q;refine⟨v',?_,p2⟩;have hj:=(aH.1 p1).1;rw[bT (by simp at hj ⊢;omega)];rw[<- bN];simpa using p1)
                           (by
                            refine⟨w.heap.size,0,0,grownCap w (T+k) gq el,Env.ff,fun _=>rfl,aC _,oc,?_,rfl⟩;rw[Iy];simp[Env.put])
                          exact⟨E',w',v',p1,p2,uf.trans p3,p4,p5⟩
                    . cases e
                  . cases e
                . cases e
              . cases e
             . cases e
           . cases e
         . cases e
       . cases e
     . cases e
   . cases e
 . cases e
end
theorem jA{kk:Option IntKind}{a b:lf}(ha:gK kk a=true)(hb:gK kk b=true):je a b=true↔a=b:=by
 cases kk with
 |none=>
  cases a<;>simp only[gK,aP]at ha;cases b<;>simp only[gK,aP]at hb;rename_i s t;simp only[je,gr,beq_iff_eq,lf.str.injEq]
 |some k=>
  cases a<;>simp only[gK,aP,bD]at ha;cases b<;>simp only[gK,aP,bD]at hb;subst ha;subst hb;simp[je]
theorem Iz{φ:Nat->Option (Array Value)}{kd:TypeDesc}{kk:Option IntKind}{a b:lf}{a' b':Value}(hd:mR kd kk=true)(ha:gK kk a=true)(hb:gK kk b=true)(ra:kV φ a a')(rb:kV φ b b'):
  Instr.sameNow kd a' b'=some (je a b):=by
 cases kk with
 |none=>
  cases a<;>simp only[gK,aP]at ha;cases b<;>simp only[gK,aP]at hb;simp only[kV]at ra rb;subst ra;subst rb;cases kd<;>simp only[mR,aP]at hd;simp only[Instr.sameNow,je];rw[sM]
 |some k=>
  cases a<;>simp only[gK,aP,bD]at ha;cases b<;>simp only[gK,aP,bD]at hb;subst ha;subst hb;simp only[kV]at ra rb;subst ra;subst rb;cases kd<;>simp only[mR,aP]at hd;simp[Instr.sameNow,je];rfl
theorem wI{φ:Nat->Option (Array Value)}{kd:TypeDesc}{kk:Option IntKind}{k:lf}{k':Value}(hd:mR kd kk=true)(hk:gK kk k=true)(rk:kV φ k k'):
  ∀(l:ae) (gi:List MapEntry) (i:Nat),kj φ l gi->(∀e∈l,gK kk e.1=true)->
  match dj k l with
  |none=>Instr.findNow kd k' gi i=some none/\(∀v,iK k v l=l++[(k,v)])/\mh k l=l/\k∉l.map (·.1)
  |some d=>∃j e',i<=j/\gi[j-i]? =some e'/\kV φ d e'.val/\kV φ k e'.key/\Instr.findNow kd k' gi i=some (some (j,e'.val))/\l[j-i]? =some (k,d)/\(∀v,iK k v l=l.set (j-i) (k,v))/\mh k l=l.eraseIdx (j-i)
 | [],gi,i,r,_=>by
   simp only[kj]at r;subst r;simp only[dj];exact⟨rfl,fun _=>rfl,rfl,by simp⟩
 |x::l,_,i,r,hl=>by
  obtain⟨y,ys,r1,r2,O,rfl⟩:=r;have M:=hl x (by simp);have hs:=Iz hd hk M rk r1;simp only[dj];cases hq:je k x.1 with
  |true=>
   have e:=(jA hk M).1 hq;refine⟨i,y,aC _,by simp,r2,by rw[e];exact r1,?_,?_,fun v=>?_,?_⟩
   . simp only[Instr.findNow,hs,hq]
   . simp[e]
   . simp[iK,hq]
   . simp[mh,hq]
  |false=>
   have ih:=wI hd hk rk l ys (i+1) O fun e he=>hl e (by simp[he]);simp only;cases K:dj k l with
   |none=>
    rw[K]at ih;obtain⟨i1,i2,i3,i4⟩:=ih;refine⟨?_,fun v=>?_,?_,?_⟩
    . simp only[Instr.findNow,hs,hq,i1]
    . simp[iK,hq,i2]
    . simp[mh,hq,i3]
    . intro h;simp only[bX,aD]at h;rcases h with q|q
      . rw[(jA hk M).2 q]at hq;cases hq
      . exact i4 q
   |some d=>
    rw[K]at ih;obtain⟨j,e',j1,j2,j3,j4,j5,j6,j7,j8⟩:=ih;have hj:j-i=(j-(i+1))+1:=by omega
    refine⟨j,e',L,by rw[hj];simpa using j2,j3,j4,?_,by rw[hj];simpa using j6,fun v=>?_,?_⟩
    . simp only[Instr.findNow,hs,hq,j5]
    . rw[hj];simp[iK,hq,j7]
    . rw[hj];simp[mh,hq,j8]
theorem Ax{kk:Option IntKind}{k d:lf}(hk:gK kk k=true):∀{l:ae},(∀e∈l,gK kk e.1=true)->(l.map (·.1)).Nodup->(dj k l=some d↔(k,d)∈l)
 | [],_,_=>by simp[dj]
 |x::l,hl,hn=>by
  have M:=hl x (by simp);simp only[bX,cn]at hn;simp only[dj];cases hq:je k x.1 with
  |true=>
   have e:=(jA hk M).1 hq;simp only[an,aD];constructor
   . intro h;left;rw[e,<- h]
   . rintro(h|h)
     . rw[<- h]
     . exact absurd (bF.2 ⟨(k,d),h,e⟩) hn.1
  |false=>
   have e:k≠x.1:=fun h=>by rw[(jA hk M).2 h]at hq;cases hq
   simp only[aD];rw[Ax hk (fun e he=>hl e (by simp[he])) hn.2];constructor
   . exact .inr
   . rintro(h|h)
     . exact absurd (by rw[<- h]) e
     . exact h
section
variable{kk:Option IntKind}{k:lf}
theorem KO(hk:gK kk k=true){l C:ae}(h:List.Perm l C)(hl:∀e∈C,gK kk e.1=true)(hn:(C.map (·.1)).Nodup):dj k l=dj k C:=by
 have U3:∀e∈l,gK kk e.1=true:=fun e he=>hl e (h.mem_iff.1 he);have qb:(l.map (·.1)).Nodup:=(h.map _).nodup_iff.2 hn;apply Option.ext;intro d;rw[Ax hk U3 qb,Ax hk hl hn,h.mem_iff]
theorem OJ{v:lf}(hk:gK kk k=true){l C:ae}(h:List.Perm l C):(∀e∈C,gK kk e.1=true)->(C.map (·.1)).Nodup->List.Perm (iK k v l) (iK k v C):=by
 induction h with
 |nil=>intro _ _;exact .refl _
 |cons x p ih=>
  intro hl hn;simp only[iK];cases je k x.1 with
  |true=>exact .cons _ p
  |false=>exact .cons _ (ih (fun e he=>hl e (by simp[he])) (by simp at hn;exact hn.2))
 |swap x y l=>
  intro hl hn;simp only[iK];have M:=hl x (by simp);have hy:=hl y (by simp);cases hqx:je k x.1 with
  |true=>
   have ex:=(jA hk M).1 hqx;cases hqy:je k y.1 with
   |true=>
    have ey:=(jA hk hy).1 hqy;simp[<- ex,<- ey]at hn
   |false=>exact .swap _ _ _
  |false=>
   cases hqy:je k y.1 with
   |true=>exact .swap _ _ _
   |false=>exact .swap _ _ _
 |trans p q Q8 Q9=>
  intro hl hn;exact(Q8 (fun e he=>hl e (q.mem_iff.1 he)) ((q.map _).nodup_iff.2 hn)).trans (Q9 hl hn)
theorem OK(hk:gK kk k=true){l C:ae}(h:List.Perm l C):(∀e∈C,gK kk e.1=true)->(C.map (·.1)).Nodup->List.Perm (mh k l) (mh k C):=by
 induction h with
 |nil=>intro _ _;exact .refl _
 |cons x p ih=>
  intro hl hn;simp only[mh];cases je k x.1 with
  |true=>exact p
  |false=>exact .cons _ (ih (fun e he=>hl e (by simp[he])) (by simp at hn;exact hn.2))
 |swap x y l=>
  intro hl hn;simp only[mh];have M:=hl x (by simp);have hy:=hl y (by simp);cases hqx:je k x.1 with
  |true=>
   have ex:=(jA hk M).1 hqx;cases hqy:je k y.1 with
   |true=>
    have ey:=(jA hk hy).1 hqy;simp[<- ex,<- ey]at hn
   |false=>exact .refl _
  |false=>
   cases hqy:je k y.1 with
   |true=>exact .refl _
   |false=>exact .swap _ _ _
 |trans p q Q8 Q9=>
  intro hl hn;exact(Q8 (fun e he=>hl e (q.mem_iff.1 he)) ((q.map _).nodup_iff.2 hn)).trans (Q9 hl hn)
end
theorem Fu{φ:Nat->Option (Array Value)}{f:MapEntry->MapEntry}{x:lf×lf}(hf:∀y,kV φ x.1 (f y).key/\kV φ x.2 (f y).val):∀(l:ae) (C:List MapEntry) (i:Nat),kj φ l C->kj φ (l.set i x) (C.modify i f)
 | [],_,i,r=>by simp only[kj]at r;subst r;simp[kj]
 |a::l,_,i,r=>by
  obtain⟨y,ys,r1,r2,O,rfl⟩:=r;cases i with
  |zero=>exact⟨f y,ys,(hf y).1,(hf y).2,O,by simp⟩
  |succ i=>exact⟨y,_,r1,r2,Fu hf l ys i O,by simp⟩
theorem CU{φ:Nat->Option (Array Value)}:∀(l:ae) (C:List MapEntry) (x:lf×lf) (y:MapEntry),kj φ l C->kV φ x.1 y.key->kV φ x.2 y.val->kj φ (l++[x]) (C++[y])
 | [],_,x,y,r,a,b=>by simp only[kj]at r;subst r;exact⟨y,[],a,b,rfl,rfl⟩
 |z::l,_,x,y,r,a,b=>by
  obtain⟨y0,ys,r1,r2,O,rfl⟩:=r;exact⟨y0,_,r1,r2,CU l ys x y O a b,rfl⟩
theorem Bn{φ:Nat->Option (Array Value)}:∀(l:ae) (C:List MapEntry) (i:Nat),kj φ l C->kj φ (l.eraseIdx i) (C.eraseIdx i)
 | [],_,i,r=>by simp only[kj]at r;subst r;simp[kj]
 |a::l,_,i,r=>by
  obtain⟨y,ys,r1,r2,O,rfl⟩:=r;cases i with
  |zero=>exact O
  |succ i=>exact⟨y,_,r1,r2,Bn l ys i O,rfl⟩
theorem zf{φ:Nat->Option (Array Value)}:∀{l:ae} {C:List MapEntry},kj φ l C->C.length=l.length
 | [],_,r=>by simp only[kj]at r;subst r;rfl
 |_::_,_,r=>by obtain⟨y,ys,_,_,O,rfl⟩:=r;simp[zf O]
open Classical in
theorem Ay{kk:Option IntKind}{k v:lf}(hk:gK kk k=true):∀(l:ae),(∀e∈l,gK kk e.1=true)->(iK k v l).map (·.1)=if k∈l.map (·.1)then l.map (·.1)else l.map (·.1)++[k]
 | [],_=>by simp[iK]
 |x::l,hl=>by
  have M:=hl x (by simp);simp only[iK];cases hq:je k x.1 with
  |true=>
   have e:=(jA hk M).1 hq;simp[e]
  |false=>
   have e:k≠x.1:=fun h=>by rw[(jA hk M).2 h]at hq;cases hq
   simp only[bX,Ay hk l fun e he=>hl e (by simp[he]),aD,e,false_or];split<;>simp
theorem IA{k:lf}:∀(l:ae),List.Sublist (mh k l) l
 | []=>.slnil
 |x::l=>by
  simp only[mh];cases je k x.1 with
  |true=>exact List.sublist_cons_self _ _
  |false=>exact .cons_cons _ (IA l)
open Classical in
section
variable{φ:Nat->Option (Array Value)}{kd:TypeDesc}{kk:Option IntKind}{C:ae}{gi:Array MapEntry}{eD:Nat}{k:lf}{k':Value}
theorem ko.qT{v:lf}{k' v':Value}(r:ko φ kk C gi.toList eD)(hd:mR kd kk=true)(hk:gK kk k=true)(rk:kV φ k k')(rv:kV φ v v'):
  (Instr.findNow kd k' gi.toList 0=some none/\ko φ kk (iK k v C) (gi.push { key:=k',val:=v',born:=eD }).toList (eD+1)) \/
  ∃(j:Nat) (e':MapEntry),Instr.findNow kd k' gi.toList 0=some (some (j,e'.val))/\gi[j]? =some e'/\kV φ k e'.key/\ko φ kk (iK k v C) (gi.modify j fun e=>{ e with key:=k',val:=v' }).toList eD:=by
 obtain⟨l,hp,hr⟩:=r.row;have hl:∀e∈l,gK kk e.1=true:=fun e he=>r.kind e (hp.mem_iff.1 he);have MZ:=OJ (v:=v) hk hp r.kind r.keys;have IB:((iK k v C).map (·.1)).Nodup:=by
  rw[Ay hk C r.kind];split
  . exact r.keys
  . rename_i h;exact List.nodup_append.2 ⟨r.keys,by simp,fun a ha b hb=>by simp at hb;subst hb;intro q;subst q;exact h ha⟩
 have IC:∀e∈iK k v C,gK kk e.1=true:=by
  intro e he;have:e.1∈(iK k v C).map (·.1):=bF.2 ⟨e,he,rfl⟩;rw[Ay hk C r.kind]at this;have base:e.1∈C.map (·.1)->gK kk e.1=true:=fun h=>by obtain⟨x,M,q⟩:=bF.1 h;rw[<- q];exact r.kind x M
  split at this
  . exact base this
  . rcases aW.1 this with h|h
    . exact base h
    . simp at h;rw[h];exact hk
 have hf:=wI hd hk rk l gi.toList 0 hr hl;cases K:dj k l with
 |none=>
  rw[K]at hf;obtain⟨X,h2,_,_⟩:=hf;refine .inl ⟨X,⟨⟨_,MZ,?_⟩,IB,IC,?_,?_⟩⟩
  . rw[h2,Array.toList_push];exact CU l gi.toList (k,v) _ hr rk rv
  . intro e he;rw[Array.toList_push]at he;rcases aW.1 he with q|q
    . have:=r.old e q;omega
    . simp at q;subst q;simp
  . rw[Array.toList_push,aZ];refine List.nodup_append.2 ⟨r.born,by simp,fun a ha b hb=>?_⟩;simp at hb;subst hb;obtain⟨e,he,q⟩:=bF.1 ha;have:=r.old e he;omega
 |some d=>
  rw[K]at hf;obtain⟨j,e',_,h2,h3,h4,h5,h6,h7,_⟩:=hf;simp only[Nat.sub_zero]at h2 h6 h7;have M0:(gi.modify j fun e=>{ e with key:=k',val:=v' }).toList.map (·.born)=gi.toList.map (·.born):=by
   rw[Array.toList_modify];apply List.ext_getElem?;intro i;simp only[bu,List.getElem?_modify];by_cases Qm:j=i
   . simp[Qm];cases gi.toList[i]? <;>rfl
   . simp[Qm]
  refine .inr ⟨j,e',h5,by rw[<- bN];exact h2,h4,⟨⟨_,MZ,?_⟩,IB,IC,?_,?_⟩⟩
  . rw[h7,Array.toList_modify];exact Fu (f:=fun e=>{ e with key:=k',val:=v' }) (fun y=>⟨rk,rv⟩) l gi.toList j hr
  . intro e he;have:e.born∈(gi.modify j fun e=>{ e with key:=k',val:=v' }).toList.map (·.born):=bF.2 ⟨e,he,rfl⟩;rw[M0]at this;obtain⟨e0,he0,q⟩:=bF.1 this;rw[<- q];exact r.old e0 he0
  . rw[M0];exact r.born
theorem ko.del(r:ko φ kk C gi.toList eD)(hd:mR kd kk=true)(hk:gK kk k=true)(rk:kV φ k k'):
  (Instr.findNow kd k' gi.toList 0=some none/\ko φ kk (mh k C) gi.toList eD) \/
  ∃(j:Nat) (e':MapEntry),Instr.findNow kd k' gi.toList 0=some (some (j,e'.val))/\ko φ kk (mh k C) (gi.eraseIdxIfInBounds j).toList eD:=by
 obtain⟨l,hp,hr⟩:=r.row;have hl:∀e∈l,gK kk e.1=true:=fun e he=>r.kind e (hp.mem_iff.1 he);have MZ:=OK hk hp r.kind r.keys;have vw:List.Sublist (mh k C) C:=IA C;have IB:((mh k C).map (·.1)).Nodup:=r.keys.sublist (vw.map _);have IC:∀e∈mh k C,gK kk e.1=true:=fun e he=>r.kind e (vw.mem he);have hf:=wI hd hk rk l gi.toList 0 hr hl;cases K:dj k l with
 |none=>
  rw[K]at hf;obtain⟨X,_,h3,_⟩:=hf;exact .inl ⟨X,⟨⟨l,by rw[h3]at MZ;exact MZ,hr⟩,IB,IC,r.old,r.born⟩⟩
 |some d=>
  rw[K]at hf;obtain⟨j,e',_,h2,_,_,h5,_,_,h8⟩:=hf;simp only[Nat.sub_zero]at h2 h8;have ht:(gi.eraseIdxIfInBounds j).toList=gi.toList.eraseIdx j:=Array.toList_eraseIdxIfInBounds;refine .inr ⟨j,e',h5,⟨⟨_,MZ,?_⟩,IB,IC,?_,?_⟩⟩
  . rw[h8,ht];exact Bn l gi.toList j hr
  . intro e he;rw[ht]at he;exact r.old e ((List.eraseIdx_sublist _ _).mem he)
  . rw[ht];exact r.born.sublist ((List.eraseIdx_sublist _ _).map _)
theorem ko.look(r:ko φ kk C gi.toList eD)(hd:mR kd kk=true)(hk:gK kk k=true)(rk:kV φ k k'):
  match dj k C with
  |none=>Instr.findNow kd k' gi.toList 0=some none
  |some d=>∃j v',Instr.findNow kd k' gi.toList 0=some (some (j,v'))/\kV φ d v':=by
 obtain⟨l,hp,hr⟩:=r.row;have hl:∀e∈l,gK kk e.1=true:=fun e he=>r.kind e (hp.mem_iff.1 he);have hf:=wI hd hk rk l gi.toList 0 hr hl;rw[<- KO hk hp r.kind r.keys];cases K:dj k l with
 |none=>rw[K]at hf;exact hf.1
 |some d=>
  rw[K]at hf;obtain⟨j,e',_,_,h3,_,h5,_⟩:=hf;exact⟨j,e'.val,h5,h3⟩
end
theorem ko.length{φ:Nat->Option (Array Value)}{kk:Option IntKind}{C:ae}{gi:List MapEntry}{eD:Nat}(r:ko φ kk C gi eD):gi.length=C.length:=by
 obtain⟨l,hp,hr⟩:=r.row;rw[zf hr,hp.length_eq]
theorem wJ{E:Env}{x:V}{d:lf}{x':Value}(e:keyOf x=some d)(r:dJ E x x'):kV E.φ d x':=by
 unfold keyOf at e;split at e<;>first|(cases e;exact r)|cases e
theorem CV{x:V}{d:lf}{kd:TypeDesc}{kk:Option IntKind}(e:keyOf x=some d)(hd:mR kd kk=true)(hk:gK kk d=true):CB kd x=true:=by
 unfold keyOf at e;split at e
 . cases e;cases kk<;>simp only[gK,aP]at hk;cases kd<;>simp only[mR,aP]at hd;rfl
 . cases e;cases kk<;>simp only[gK,aP]at hk;cases kd<;>simp only[mR,aP]at hd;rfl
 . cases e
section
variable{P:Program}{E:Env}{h:H rs}{n:Nat}{w:World}
theorem fq{b:Nat}{o:Obj}(hb:w.heap[b]? =some o)(hn:∀c el fz,o≠ .cells c el fz):(getObj b).run P w= .ok o w:=by
 simp only[getObj,Sem.run,hb]
theorem nj{b:Nat}{o o':Obj}(hb:w.heap[b]? =some o)(hn:∀c el fz,o≠ .cells c el fz):(setObj b o').run P w= .ok () { w with heap:=w.heap.setIfInBounds b o' }:=by
 simp only[setObj,Sem.run,hb]
theorem zg:∀{xs:List (V×V×Nat)} {ys:List MapEntry},kX E xs ys->ys.length=xs.length
 | [],_,r=>by simp only[kX]at r;subst r;rfl
 |_::_,_,r=>by obtain⟨y,ys,_,_,_,O,rfl⟩:=r;simp[zg O]
theorem zh{m:Nat}{C:List (V×V×Nat)}{eD:Nat}(g:Good E h w)(W:h.get m=some (.map C eD)):
  ∃b gi,E.ι m=some (b,0)/\w.heap[b]? =some (.map gi eD)/\kX E C gi.toList:=by
 obtain⟨b,s,hi,hs,gi,X,h2⟩:=g.rel m _ W;subst hs;exact⟨b,gi,hi,X,h2⟩
theorem vx{m:Nat}{kk:Option IntKind}{C:ae}(g:Good E h w)(W:h.get m=some (.dy kk C)):
  ∃b gi eD,E.ι m=some (b,0)/\w.heap[b]? =some (.map gi eD)/\ko E.φ kk C gi.toList eD:=by
 obtain⟨b,s,hi,hs,gi,eD,X,h2⟩:=g.rel m _ W;subst hs;exact⟨b,gi,eD,hi,X,h2⟩
theorem aad{eH:Array TypeId}{ty:TypeId}{args:ag}{dm:List Value}{v:V}(g:Good E h w)(ra:dK E args dm)(e:Oz P eH args h=some v):
  kG P E h n w (do pure (.value (<- Builtin.len_ eH ty dm.toArray))) (.val v h n):=by
 unfold Oz at e;split at e
 . rename_i t x X;obtain⟨x',_,rx,qP,rfl⟩:=ra;simp only[dK]at qP;subst qP;split at e
   . rename_i s hu;obtain rfl:=eE e;simp only[dJ]at rx;subst rx;refine ee g (v':=.int .i64 s.length) ?_ rfl;have mA:(⟨s.toArray⟩:ByteArray).size=s.length:=by show s.toArray.size=_;simp
     simp[Builtin.len_,X,dz hu,goInt,mA]
   . rename_i _ k _ hu;obtain rfl:=eE e;refine ee g (v':=.int .i64 k) ?_ rfl;simp[Builtin.len_,X,dz hu,goInt]
   . rename_i a T A jJ hu;obtain rfl:=eE e;refine ee g (v':=.int .i64 T) ?_ rfl;cases a with
     |none=>obtain⟨rfl,rfl,rfl⟩:=rx;simp[Builtin.len_,X,dz hu,goInt]
     |some a=>obtain⟨_,_,_,_,_,_,_,_,_,rfl⟩:=rx;simp[Builtin.len_,X,dz hu,goInt]
   . rename_i f T Q hu;obtain rfl:=eE e;refine ee g (v':=.int .i64 T) ?_ rfl;obtain⟨⟨_,_,_,rfl,_⟩,_⟩:=rx;simp[Builtin.len_,X,dz hu,goInt]
   . rename_i hu;obtain rfl:=eE e;simp only[dJ]at rx;subst rx;refine ee g (v':=.int .i64 0) ?_ rfl;simp[Builtin.len_,X,dz hu,goInt]
   . rename_i m hu;split at e
     . rename_i C eD W;obtain rfl:=eE e;obtain⟨b,gi,hi,hb,B9⟩:=zh g W;obtain⟨b',kS,rfl⟩:=rx;rw[hi]at kS;cases kS;refine ee g (v':=.int .i64 C.length) ?_ rfl;have hl:=zg B9;simp only[Array.length_toList]at hl;simp[Builtin.len_,X,dz hu,goInt,fq (P:=P) hb (by intro _ _ _ q;cases q),hl]
     . rename_i kk C W;obtain rfl:=eE e;obtain⟨b,gi,eD,hi,hb,B9⟩:=vx g W;obtain⟨b',kS,rfl⟩:=rx;rw[hi]at kS;cases kS;refine ee g (v':=.int .i64 C.length) ?_ rfl;have hl:=B9.length;simp only[Array.length_toList]at hl;simp[Builtin.len_,X,dz hu,goInt,fq (P:=P) hb (by intro _ _ _ q;cases q),hl]
     . cases e
   . cases e
 . cases e
theorem ID:∀(xs:ag) (x v:V) (x':Value) (CG:List Value),dJ E x x'->dK E xs CG->Ii x xs=some v->
  ∃v',(CG.foldlM Builtin.max2 x').run P w= .ok v' w/\dJ E v v'
 | [],x,v,x',CG,rx,O,e=>by
   simp only[dK]at O;subst O;have:v=x:=by cases x<;>simp[Ii]at e<;>exact e.symm
   subst this;exact⟨x',rfl,rx⟩
 |y::ys,x,v,x',_,rx,O,e=>by
  obtain⟨y',Kz,ry,rys,rfl⟩:=O;cases x with
  |int k a=>cases y with
   |int j b=>
    simp only[Ii]at e;simp only[dJ]at rx ry;subst rx;subst ry;obtain⟨v',X,h2⟩:=ID ys (.int k (if b>a then b else a)) v (.int k (if b>a then b else a)) Kz rfl rys e;refine⟨v',?_,h2⟩;simp only[List.foldlM_cons,Sem.run_bind,Builtin.max2,Sem.run_pure,Result.andThen_ok];exact X
   |_=>simp[Ii]at e
  |_=>simp[Ii]at e
theorem IE:∀(xs:ag) (x v:V) (x':Value) (CG:List Value),dJ E x x'->dK E xs CG->Ij x xs=some v->
  ∃v',(CG.foldlM Builtin.min2 x').run P w= .ok v' w/\dJ E v v'
 | [],x,v,x',CG,rx,O,e=>by
   simp only[dK]at O;subst O;have:v=x:=by cases x<;>simp[Ij]at e<;>exact e.symm
   subst this;exact⟨x',rfl,rx⟩
 |y::ys,x,v,x',_,rx,O,e=>by
  obtain⟨y',Kz,ry,rys,rfl⟩:=O;cases x with
  |int k a=>cases y with
   |int j b=>
    simp only[Ij]at e;simp only[dJ]at rx ry;subst rx;subst ry;obtain⟨v',X,h2⟩:=IE ys (.int k (if b<a then b else a)) v (.int k (if b<a then b else a)) Kz rfl rys e;refine⟨v',?_,h2⟩;simp only[List.foldlM_cons,Sem.run_bind,Builtin.min2,Sem.run_pure,Result.andThen_ok];exact X
   |_=>simp[Ij]at e
  |_=>simp[Ij]at e
section
variable{eH:Array TypeId}{ty:TypeId}
theorem aae{x v:V}{xs:ag}{dm:List Value}(g:Good E h w)(ra:dK E (x::xs) dm)(e:Ii x xs=some v):
  kG P E h n w (do pure (.value (<- Builtin.max_ eH ty dm.toArray))) (.val v h n):=by
 obtain⟨x',CG,rx,rxs,rfl⟩:=ra;obtain⟨v',X,h2⟩:=ID (P:=P) (w:=w) xs x v x' CG rx rxs e;refine ee g (v':=v') ?_ h2;simp only[Builtin.max_,Sem.run_bind,X,Result.andThen_ok,Sem.run_pure]
theorem aaf{x v:V}{xs:ag}{dm:List Value}(g:Good E h w)(ra:dK E (x::xs) dm)(e:Ij x xs=some v):
  kG P E h n w (do pure (.value (<- Builtin.min_ eH ty dm.toArray))) (.val v h n):=by
 obtain⟨x',CG,rx,rxs,rfl⟩:=ra;obtain⟨v',X,h2⟩:=IE (P:=P) (w:=w) xs x v x' CG rx rxs e;refine ee g (v':=v') ?_ h2;simp only[Builtin.min_,Sem.run_bind,X,Result.andThen_ok,Sem.run_pure]
end
theorem OL{kd:TypeDesc}{a b:V}{a' b':Value}{r:Bool}(ra:dJ E a a')(rb:dJ E b b')(e:yS kd a b=some r):Instr.sameNow kd a' b'=some r:=by
 unfold yS at e;split at e
 . simp only[dJ]at ra rb;subst ra;subst rb;split at e
   . rename_i hk;obtain rfl:=eE e;simp[Instr.sameNow,hk]
   . cases e
 . simp only[dJ]at ra rb;subst ra;subst rb;obtain rfl:=eE e;simp only[Instr.sameNow];rw[sM]
 . cases e
theorem wK{kd:TypeDesc}{k:V}{k':Value}(rk:dJ E k k'):∀(C:List (V×V×Nat)) (gi:List MapEntry) (i:Nat) (r:Option (Nat×V×V×Nat)),kX E C gi->ve kd k C i=some r->
  match r with
  |none=>Instr.findNow kd k' gi i=some none
  |some (j,e)=>∃e',i<=j/\C[j-i]? =some e/\gi[j-i]? =some e'/\yS kd k e.1=some true/\dJ E e.1 e'.key/\dJ E e.2.1 e'.val/\e'.born=e.2.2/\Instr.findNow kd k' gi i=some (some (j,e'.val))
 | [],gi,i,r,O,e=>by
   simp only[kX]at O;subst O;simp only[ve,an]at e;subst e;simp[Instr.findNow]
 |x::xs,_,i,r,O,e=>by
  obtain⟨y,ys,r1,r2,r3,O,rfl⟩:=O;simp only[ve]at e;cases hk:yS kd k x.1 with
  |none=>simp[hk]at e
  |some b=>
   have hs:=OL rk r1 hk;cases b with
   |true=>
    simp only[hk,an]at e;subst e;exact⟨y,aC _,by simp,by simp,hk,r1,r2,r3,by simp[Instr.findNow,hs]⟩
   |false=>
    simp only[hk]at e;have ih:=wK rk xs ys (i+1) r O e;cases r with
    |none=>simp only at ih ⊢;simp[Instr.findNow,hs,ih]
    |some q=>
     obtain⟨j,e0⟩:=q;obtain⟨e',a1,a2,a3,a4,a5,a6,a7,a8⟩:=ih;have hj:j-i=(j-(i+1))+1:=by omega
     exact⟨e',L,by rw[hj];simpa using a2,by rw[hj];simpa using a3,a4,a5,a6,a7,by simp[Instr.findNow,hs,a8]⟩
section
variable{kt:TypeId}{kd:TypeDesc}{k:V}{k':Value}{b:Bool}
theorem gH{gi:List MapEntry}{r:Option (Nat×Value)}(hu:P.underlying kt=some kd)(e:Instr.findNow kd k' gi 0=some r):
  (Instr.findKey kt k' gi).run P w= .ok r w:=by
 simp[Instr.findKey,dz hu,e]
theorem xw(d:Nat)(hu:P.underlying kt=some kd)(rk:dJ E k k')(e:CB kd k=true):(Instr.checkKey b (d+1) kt k').run P w= .ok () w:=by
 unfold CB at e;split at e
 . simp only[dJ]at rk;subst rk;simp only[Instr.checkKey,Sem.run_bind,dz hu,Result.andThen_ok];rfl
 . simp only[dJ]at rk;subst rk;simp only[Instr.checkKey,Sem.run_bind,dz hu,Result.andThen_ok];rfl
 . cases e
theorem js(hu:P.underlying kt=some kd)(rk:dJ E k k')(e:CB kd k=true):(Instr.checkKey b 10000 kt k').run P w= .ok () w:=
 xw 9999 hu rk e
end
theorem OM{t:TypeId}{x k v:V}{ok:Bool}{x' k':Value}(g:Good E h w)(rx:dJ E x x')(rk:dJ E k k')(e:wz P t h x k ok=some v):
  kG P E h n w (do pure (.value (<- Instr.lookup t x' k' ok))) (.val v h n):=by
 unfold wz at e;split at e
 . rename_i kt et hu;split at e
   . rename_i kd z hk hz;split at e
     . rename_i r kk C W;split at e
       . rename_i kq KP;split at e
         . rename_i hb;simp only[aE]at hb;simp only[an]at e;obtain⟨z',Ql,OF,_⟩:=mI (w:=w) E hz;obtain⟨b,gi,eD,hi,xh,hr⟩:=vx g W;obtain⟨b',kS,rfl⟩:=rx;rw[hi]at kS;cases kS;have uM:=fq (P:=P) xh (by intro _ _ _ q;cases q);have M1:=CV KP hb.1 hb.2;have IF:=js (P:=P) (w:=w) (b:=gi.isEmpty) hk rk M1;have Vy:=hr.look hb.1 hb.2 (wJ KP rk);cases K:dj kq C with
           |none=>
            rw[K]at Vy e;have fU:(Instr.lookup t (.map (some b)) k' ok).run P w= .ok (if ok then .tuple #[z',.bool false]else z') w:=by
             simp only[Instr.lookup,Sem.run_bind,dz hu,Result.andThen_ok,Sem.run_pure,uM,IF,gH hk Vy,Ql]
            subst e;refine ee g (v':=if ok then .tuple #[z',.bool false]else z') (by rw[Sem.run_bind,fU];rfl) ?_;cases ok with
            |true=>exact⟨[z',.bool false],⟨z',_,OF,⟨.bool false,[],rfl,rfl,rfl⟩,rfl⟩,rfl⟩
            |false=>exact OF
           |some d=>
            rw[K]at Vy e;obtain⟨j,v',q1,q2⟩:=Vy;have fU:(Instr.lookup t (.map (some b)) k' ok).run P w= .ok (if ok then .tuple #[v',.bool true]else v') w:=by
             simp only[Instr.lookup,Sem.run_bind,dz hu,Result.andThen_ok,Sem.run_pure,uM,IF,gH hk q1]
            subst e;refine ee g (v':=if ok then .tuple #[v',.bool true]else v') (by rw[Sem.run_bind,fU];rfl) ?_;cases ok with
            |true=>exact⟨[v',.bool true],⟨v',_,kW d v' q2,⟨.bool true,[],rfl,rfl,rfl⟩,rfl⟩,rfl⟩
            |false=>exact kW d v' q2
         . cases e
       . cases e
     rename_i x _ _ GM;split at e
     . rename_i M1;obtain⟨z',Ql,OF,_⟩:=mI (w:=w) E hz;have QZ:∀(C:List (V×V×Nat)) (gi:Array MapEntry),kX E C gi.toList->(match ve kd k C 0 with
         |some (some (_,_,v,_))=>some (if ok then V.ew [v,.bool true]else v)
         |some none=>some (if ok then V.ew [z,.bool false]else z)
         |none=>none)=some v->
         ((Instr.findKey kt k' gi.toList).run P w= .ok none w/\dJ E v (if ok then .tuple #[z',.bool false]else z')) \/
         ∃j v',(Instr.findKey kt k' gi.toList).run P w= .ok (some (j,v')) w/\dJ E v (if ok then .tuple #[v',.bool true]else v'):=by
        intro C gi B9 e;cases hf:ve kd k C 0 with
        |none=>simp[hf]at e
        |some r=>
         have hr:=wK rk C gi.toList 0 r B9 hf;cases r with
         |none=>
          simp only[hf,an]at e;subst e;refine .inl ⟨gH hk hr,?_⟩;cases ok with
          |true=>exact⟨[z',.bool false],⟨z',_,OF,⟨.bool false,[],rfl,rfl,rfl⟩,rfl⟩,rfl⟩
          |false=>exact OF
         |some q=>
          obtain⟨j,k0,v0,I⟩:=q;simp only[hf,an]at e;subst e;obtain⟨e',_,_,_,_,_,a6,_,a8⟩:=hr;refine .inr ⟨j,e'.val,gH hk a8,?_⟩;cases ok with
          |true=>exact⟨[e'.val,.bool true],⟨e'.val,_,a6,⟨.bool true,[],rfl,rfl,rfl⟩,rfl⟩,rfl⟩
          |false=>exact a6
       cases x with
       |map m=>
        cases m with
        |none=>
         simp only at e;simp only[dJ]at rx;subst rx;rcases QZ [] #[] (by simp[kX]) e with⟨m1,m3⟩|⟨j,v',m1,m3⟩
         . refine ee g ?_ m3;simp only[Instr.lookup,Sem.run_bind,dz hu,Result.andThen_ok,Sem.run_pure,js (b:=(#[]:Array MapEntry).isEmpty) hk rk M1,m1,Ql]
         . refine ee g ?_ m3;simp only[Instr.lookup,Sem.run_bind,dz hu,Result.andThen_ok,Sem.run_pure,js (b:=(#[]:Array MapEntry).isEmpty) hk rk M1,m1]
        |some m=>
         simp only at e;cases W:h.get m with
         |none=>simp[W]at e
         |some o=>
          cases o with
          |map C eD=>
           simp only[W]at e;obtain⟨b,gi,hi,hb,B9⟩:=zh g W;obtain⟨b',kS,rfl⟩:=rx;rw[hi]at kS;cases kS;have uM:=fq (P:=P) hb (by intro _ _ _ q;cases q);rcases QZ C gi B9 e with⟨m1,m3⟩|⟨j,v',m1,m3⟩
           . refine ee g ?_ m3;simp only[Instr.lookup,Sem.run_bind,dz hu,Result.andThen_ok,Sem.run_pure,uM,js (b:=gi.isEmpty) hk rk M1,m1,Ql]
           . refine ee g ?_ m3;simp only[Instr.lookup,Sem.run_bind,dz hu,Result.andThen_ok,Sem.run_pure,uM,js (b:=gi.isEmpty) hk rk M1,m1]
          |_=>simp[W]at e
       |_=>simp at e
     . cases e
   . cases e
 . cases e
theorem qo{f:V×V×Nat->V×V×Nat}{f':MapEntry->MapEntry}(hf:∀x y,dJ E x.1 y.key->dJ E x.2.1 y.val->y.born=x.2.2->dJ E (f x).1 (f' y).key/\dJ E (f x).2.1 (f' y).val/\(f' y).born=(f x).2.2):
  ∀(xs:List (V×V×Nat)) (ys:List MapEntry) (i:Nat),kX E xs ys->kX E (tJ xs i f) (ys.modify i f')
 | [],_,i,r=>by simp only[kX]at r;subst r;simp[tJ,kX]
 |x::xs,_,i,r=>by
  obtain⟨y,ys,a,b,c,O,rfl⟩:=r;cases i with
  |zero=>obtain⟨p,q,s⟩:=hf x y a b c;exact⟨f' y,ys,p,q,s,O,by simp⟩
  |succ i=>exact⟨y,_,a,b,c,qo hf xs ys i O,by simp⟩
theorem xY:∀(xs:List (V×V×Nat)) (ys:List MapEntry) (x:V×V×Nat) (y:MapEntry),kX E xs ys->dJ E x.1 y.key->dJ E x.2.1 y.val->y.born=x.2.2->kX E (xs++[x]) (ys++[y])
 | [],_,x,y,r,a,b,c=>by simp only[kX]at r;subst r;exact⟨y,[],a,b,c,rfl,rfl⟩
 |z::zs,_,x,y,r,a,b,c=>by
  obtain⟨y0,ys,a0,b0,c0,O,rfl⟩:=r;exact⟨y0,_,a0,b0,c0,xY zs ys x y O a b c,rfl⟩
section
variable{m b eD clock':Nat}
theorem zi{C xx:List (V×V×Nat)}{gi BS:Array MapEntry}(g:Good E h w)(gT:m<fW)(W:h.get m=some (.map C eD))(hi:E.ι m=some (b,0))(hb:w.heap[b]? =some (.map gi eD))
  (B9:kX E xx BS.toList):iI E h w E (h.set m (some (.map xx clock'))) { w with heap:=w.heap.setIfInBounds b (.map BS clock') }:=by
 have fH:b<w.heap.size:=(aS.1 hb).1;refine iI.write g gT ⟨_,W,rfl⟩ hi (by simp) rfl rfl rfl (fun x M=>?_) ⟨rfl,BS,?_,B9⟩
 . simp[Ne.symm M]
 . simp[fH]
theorem zj{kk:Option IntKind}{C xx:ae}{gi BS:Array MapEntry}(g:Good E h w)(gT:m<fW)(W:h.get m=some (.dy kk C))(hi:E.ι m=some (b,0))(hb:w.heap[b]? =some (.map gi eD))
  (B9:ko E.φ kk xx BS.toList clock'):iI E h w E (h.set m (some (.dy kk xx))) { w with heap:=w.heap.setIfInBounds b (.map BS clock') }:=by
 have fH:b<w.heap.size:=(aS.1 hb).1;refine iI.write g gT ⟨_,W,rfl⟩ hi (by simp) rfl rfl rfl (fun x M=>?_) ⟨rfl,BS,clock',?_,B9⟩
 . simp[Ne.symm M]
 . simp[fH]
end
theorem CW{kd:TypeDesc}{a b:V}{a' b':Value}(ra:dJ E a a')(rb:dJ E b b')(e:yS kd a b=some true):(Instr.keyThatStays b' a').run P w= .ok a' w:=by
 have:Instr.sameBits 10000 b' a'=true:=by
  unfold yS at e;split at e
  . simp only[dJ]at ra rb;subst ra;subst rb;split at e
    . rename_i hk;simp only[an,beq_iff_eq]at e;simp[Instr.sameBits,hk,e]
    . cases e
  . simp only[dJ]at ra rb;subst ra;subst rb;simp only[an]at e;simp only[Instr.sameBits];rw[gr]at e;have hab:_=_:=eq_of_beq e;subst hab;rw[sM,gr];simp
  . cases e
 simp[Instr.keyThatStays,this]
section
variable{eH:Array TypeId}{t ty:TypeId}{m k:V}{m' k':Value}{r:nx}
theorem zk{v:V}{m' k' v':Value}{r:nx}(g:Good E h w)(rm:dJ E m m')(rk:dJ E k k')(rv:dJ E v v')(e:tK P t h n m k v=some r):
  kG P E h n w (do Instr.mapUpdate t m' k' v';pure .skip) r:=by
 unfold tK at e;split at e
 . rename_i kt et m hu;split at e
   . rename_i kd C eD hk W;obtain⟨b,gi,hi,hb,B9⟩:=zh g W;obtain⟨b',kS,rfl⟩:=rm;rw[hi]at kS;cases kS;have uM:=fq (P:=P) hb (by intro _ _ _ q;cases q);have xZ:∀o',(setObj b o').run P w= .ok () { w with heap:=w.heap.setIfInBounds b o' }:=fun o'=>nj (P:=P) hb (by intro _ _ _ q;cases q);split at e
     . rename_i hq;obtain⟨M1,gT⟩:=hq;have IF:=js (P:=P) (w:=w) (b:=false) hk rk M1;cases hf:ve kd k C 0 with
       |none=>simp[hf]at e
       |some q=>
        have hr:=wK rk C gi.toList 0 q B9 hf;cases q with
        |none=>
         simp only[hf,an]at e;subst e;have KN:=zi (clock':=eD+1) (xx:=C++[(k,v,eD)]) (BS:=gi.push { key:=k',val:=v',born:=eD }) g gT W hi hb (by
          rw[Array.toList_push];exact xY C gi.toList (k,v,eD) { key:=k',val:=v',born:=eD } B9 rk rv rfl)
         refine⟨E,_,undef,.inr ⟨?_,rfl⟩,⟨[],rfl,rfl⟩,KN,fun _ _=>rfl,.inl ⟨rfl,rfl⟩⟩;simp only[Instr.mapUpdate,Sem.run_bind,dz hu,Result.andThen_ok,uM,IF,gH hk hr,xZ,Sem.run_pure]
        |some q=>
         obtain⟨j,e0⟩:=q;simp only[hf,an]at e;subst e;obtain⟨e',a1,a2,a3,a4,a5,a6,a7,a8⟩:=hr;simp only[Nat.sub_zero]at a2 a3;have KQ:((gi[j]?).map (·.key)).getD k'=e'.key:=by rw[<- bN,a3];rfl
         have wF:=CW (P:=P) (w:=w) rk a5 a4;have KN:=zi (clock':=eD) (xx:=tJ C j fun e=>(k,v,e.2.2)) (BS:=gi.modify j fun e=>{ e with key:=k',val:=v' }) g gT W hi hb (by
          rw[Array.toList_modify];exact qo (f:=fun e=>(k,v,e.2.2)) (f':=fun e=>{ e with key:=k',val:=v' }) (fun x y p q s=>⟨rk,rv,s⟩) C gi.toList j B9)
         refine⟨E,_,undef,.inr ⟨?_,rfl⟩,⟨[],rfl,rfl⟩,KN,fun _ _=>rfl,.inl ⟨rfl,rfl⟩⟩;simp only[Instr.mapUpdate,Sem.run_bind,dz hu,Result.andThen_ok,uM,IF,gH hk a8,KQ,wF,xZ,Sem.run_pure]
     . cases e
   . rename_i kd kk C hk W;split at e
     . rename_i kq vq KP hvq;split at e
       . rename_i hb;simp only[aE,bD]at hb;obtain⟨hd,Fv,gT⟩:=hb;obtain rfl:=eE e;obtain⟨b,gi,eD,hi,xh,hr⟩:=vx g W;obtain⟨b',kS,rfl⟩:=rm;rw[hi]at kS;cases kS;have uM:=fq (P:=P) xh (by intro _ _ _ q;cases q);have xZ:∀o',(setObj b o').run P w= .ok () { w with heap:=w.heap.setIfInBounds b o' }:=fun o'=>nj (P:=P) xh (by intro _ _ _ q;cases q);have M1:=CV KP hd Fv;have IF:=js (P:=P) (w:=w) (b:=false) hk rk M1;rcases hr.qT hd Fv (wJ KP rk) (Gy hvq rv).1 with⟨q1,q2⟩|⟨j,e',q1,q2,q3,q4⟩
         . refine⟨E,_,undef,.inr ⟨?_,rfl⟩,⟨[],rfl,rfl⟩,zj g gT W hi xh q2,fun _ _=>rfl,.inl ⟨rfl,rfl⟩⟩;simp only[Instr.mapUpdate,Sem.run_bind,dz hu,Result.andThen_ok,uM,IF,gH hk q1,xZ,Sem.run_pure]
         . have KQ:((gi[j]?).map (·.key)).getD k'=e'.key:=by rw[q2];rfl
           have wF:(Instr.keyThatStays e'.key k').run P w= .ok k' w:=by
            have r1:=wJ KP rk;have:e'.key=k':=by
             cases kq<;>first|(simp only[kV]at q3 r1;rw[q3,r1])|(unfold keyOf at KP;split at KP<;>cases KP)
            rw[this];refine CW rk rk (kd:=kd) ?_;have asy:=(jA Fv Fv).2 rfl;unfold keyOf at KP;split at KP<;>first|cases KP|skip
            . cases kd<;>cases kk<;>simp only[mR,gK,aP]at hd Fv;simp[yS]
            . cases kd<;>cases kk<;>simp only[mR,gK,aP]at hd Fv;simp only[yS,gr];simp
           refine⟨E,_,undef,.inr ⟨?_,rfl⟩,⟨[],rfl,rfl⟩,zj g gT W hi xh q4,fun _ _=>rfl,.inl ⟨rfl,rfl⟩⟩;simp only[Instr.mapUpdate,Sem.run_bind,dz hu,Result.andThen_ok,uM,IF,gH hk q1,KQ,wF,xZ,Sem.run_pure]
       . cases e
     . cases e
   . cases e
 . cases e
theorem ON{args:ag}{dm:List Value}{r:nx}(g:Good E h w)(ra:dK E args dm)(ha:eH.size=2)(e:Gu P eH args h n=some r):
  kG P E h n w (do pure (.value (<- Builtin.delete_ eH ty dm.toArray))) r:=by
 unfold Gu at e;split at e
 . rename_i t m k X;obtain⟨m',_,rm,⟨k',_,rk,qP,rfl⟩,rfl⟩:=ra;simp only[dK]at qP;subst qP;split at e
   . rename_i kt et hu;split at e
     . rename_i kd kk C kq hk W KP;split at e
       . rename_i hb;simp only[aE,bD]at hb;obtain⟨hd,Fv,gT⟩:=hb;obtain rfl:=eE e;obtain⟨b,gi,eD,hi,xh,hr⟩:=vx g W;obtain⟨b',kS,rfl⟩:=rm;rw[hi]at kS;cases kS;have uM:=fq (P:=P) xh (by intro _ _ _ q;cases q);have xZ:∀o',(setObj b o').run P w= .ok () { w with heap:=w.heap.setIfInBounds b o' }:=fun o'=>nj (P:=P) xh (by intro _ _ _ q;cases q);have M1:=CV KP hd Fv;have IF:=js (P:=P) (w:=w) (b:=gi.isEmpty) hk rk M1;rcases hr.del hd Fv (wJ KP rk)with⟨q1,q2⟩|⟨j,e',q1,q2⟩
         . refine⟨E,_,.tuple #[],.inl ?_,⟨[],rfl,rfl⟩,zj g gT W hi xh q2,fun _ _=>rfl,.inl ⟨rfl,rfl⟩⟩;simp[Builtin.delete_,X,dz hu,uM,IF,gH hk q1,xZ]
         . refine⟨E,_,.tuple #[],.inl ?_,⟨[],rfl,rfl⟩,zj g gT W hi xh q2,fun _ _=>rfl,.inl ⟨rfl,rfl⟩⟩;simp[Builtin.delete_,X,dz hu,uM,IF,gH hk q1,xZ]
       . cases e
     . cases e
   . cases e
 . cases e
theorem IG(g:Good E h w)(rm:dJ E m m')(rk:dJ E k k')(e:Al P t h n m k=some r):
  kG P E h n w (do pure (.value (<- Instr.mapEntry t m' k'))) r:=by
 unfold Al at e;split at e
 . rename_i kt et m hu;split at e
   . rename_i kd C eD z hk W hz;obtain⟨b,gi,hi,hb,B9⟩:=zh g W;obtain⟨b',kS,rfl⟩:=rm;rw[hi]at kS;cases kS;have uM:=fq (P:=P) hb (by intro _ _ _ q;cases q);have xZ:∀o',(setObj b o').run P w= .ok () { w with heap:=w.heap.setIfInBounds b o' }:=fun o'=>nj (P:=P) hb (by intro _ _ _ q;cases q);obtain⟨z',Ql,OF,_⟩:=mI (w:=w) E hz;split at e
     . rename_i hq;obtain⟨M1,gT⟩:=hq;have IF:=js (P:=P) (w:=w) (b:=false) hk rk M1;cases hf:ve kd k C 0 with
       |none=>simp[hf]at e
       |some q=>
        have hr:=wK rk C gi.toList 0 q B9 hf;cases q with
        |none=>
         simp only[hf,an]at e;subst e;have KN:=zi (clock':=eD+1) (xx:=C++[(k,z,eD)]) (BS:=gi.push { key:=k',val:=z',born:=eD }) g gT W hi hb (by
          rw[Array.toList_push];exact xY C gi.toList (k,z,eD) { key:=k',val:=z',born:=eD } B9 rk OF rfl)
         refine⟨E,_,.tuple #[z',.int .i64 eD],.inl ?_,⟨[z',.int .i64 eD],⟨z',_,OF,⟨.int .i64 eD,[],rfl,rfl,rfl⟩,rfl⟩,rfl⟩,KN,fun _ _=>rfl,.inl ⟨rfl,rfl⟩⟩;simp only[Instr.mapEntry,Sem.run_bind,dz hu,Result.andThen_ok,uM,IF,gH hk hr,Ql,xZ,Sem.run_pure,goInt]
        |some q=>
         obtain⟨j,e0⟩:=q;simp only[hf,an]at e;subst e;obtain⟨e',a1,a2,a3,a4,a5,a6,a7,a8⟩:=hr;simp only[Nat.sub_zero]at a2 a3;have KQ:((gi[j]?).map (·.key)).getD k'=e'.key:=by rw[<- bN,a3];rfl
         have M0:(Option.map (fun x=>(x.born:Int)) gi[j]?).getD 0=(e0.2.2:Int):=by rw[<- bN,a3];exact aL _ a7
         have wF:=CW (P:=P) (w:=w) rk a5 a4;have KN:=zi (clock':=eD) (xx:=tJ C j fun e=>(k,e.2.1,e.2.2)) (BS:=gi.modify j fun e=>{ e with key:=k' }) g gT W hi hb (by
          rw[Array.toList_modify];exact qo (f:=fun e=>(k,e.2.1,e.2.2)) (f':=fun e=>{ e with key:=k' }) (fun x y p q s=>⟨rk,q,s⟩) C gi.toList j B9)
         refine⟨E,_,.tuple #[e'.val,.int .i64 e0.2.2],.inl ?_,⟨[e'.val,.int .i64 e0.2.2],⟨e'.val,_,a6,⟨.int .i64 e0.2.2,[],rfl,rfl,rfl⟩,rfl⟩,rfl⟩,KN,fun _ _=>rfl,.inl ⟨rfl,rfl⟩⟩;simp only[Instr.mapEntry,Sem.run_bind,dz hu,Result.andThen_ok,uM,IF,gH hk a8,KQ,M0,wF,xZ,Sem.run_pure,goInt]
     . cases e
   . cases e
 . cases e
theorem GN{m o l A z:Nat}{dm:List Value}(g:Good E h w)(ra:dK E [.dx (some (m,o)) l A z] dm)(J:0<A):
  kG P E h n w (do pure (.value (<- Builtin.unsafeSliceData_ eH ty dm.toArray))) (.val (.ptr (some (m,o))) h n):=by
 obtain⟨x',_,⟨b,s,o',gq,X,h2,h3,h4,h5,rfl⟩,qP,rfl⟩:=ra;simp only[dK]at qP;subst qP;have:=h2 J;subst this;refine ee g (v':=.pointer (some ⟨b,s+o,none⟩)) ?_ ⟨b,s,X,rfl⟩;rw[Sem.run_bind,Lib.run_unsafeSliceData_row w eH ty ⟨b,s+o,none⟩ l gq L];rfl
theorem BT{pt e:TypeId}{m:Nat}{l:Int}{Bg:Bool}{t:B}{dm:List Value}(g:Good E h w)(ra:dK E [.ptr (some (m,0)),.int .i64 l] dm)(ha0:eH[0]? =some pt)(ha:eH.size=2)(hp:P.underlying pt=some (.pointer e))
  (W:h.get m=some (.ia e Bg t)) (hl:l=t.length) (h0:0<t.length) (hce:P.cellsOf e=1) (gT:m<fW) (h63:t.length<=xN):
  kG P E h n w (do pure (.value (<- Builtin.unsafeString_ eH ty dm.toArray))) (.val (.str t) (h.set m (some (.ia e true t))) n):=by
 obtain⟨x',_,⟨b,s,X,rfl⟩,⟨y',_,r2,qP,rfl⟩,rfl⟩:=ra;simp only[dK]at qP;subst qP;simp only[dJ]at r2;subst r2;obtain⟨b',s',mO,c,fz,xs,xh,hs,mA,⟨B7,KM⟩,CR,mJ⟩:=g.rel m _ W;rw[X]at mO;cases mO;subst hs;have U2:xs.length=t.length:=by rw[<- CR];simp[eW]
 have pT:t.length<=c.size:=by
  have h2:=mJ (t.length-1) (xs[t.length-1]'(by omega)) (az L);have:=(aS.1 h2).1;omega
 have kL:eH=#[pt,eH[1]'(by omega)]:=by
  apply Array.ext
  . simpa using ha
  . intro i q1 q2;have:i=0\/i=1:=by simp at q2;omega
    rcases this with rfl|rfl
    . rw[bq q1]at ha0;simpa using ha0
    . rfl
 have hlb:∀(l:List Int) (k:Nat) (gz:ByteArray),(∀(j:Nat) (x:Int),l[j]? =some x->c[k+j]? =some (.int .u8 x))->(loadBytes ⟨b,k,none⟩ gz l.length).run P w= .ok ⟨gz.data++(eW l).toArray⟩ w:=by
  intro l
  induction l with
  |nil=>intro k gz _;simp[loadBytes,eW]
  |cons x l ih=>
   intro k gz hh;have e0:=hh 0 x rfl;simp only[aT,loadBytes,Sem.run_bind,run_load,Addr.jk];rw[show(⟨b,k,none⟩:Addr)=⟨b,k+0,none⟩from rfl,nH xh,e0];simp only[Result.andThen_ok];rw[ih (k+0+1) _ (fun j y hy=>by have:=hh (j+1) y (by simpa using hy);rw[<- this];congr 1;omega)];congr 1;simp[eW,ByteArray.push]
 have aeV:=hlb xs 0 .empty (fun j x M=>by rw[bI];exact mJ j x M);rw[U2,CR]at aeV;have Z8:w.shape? b=some (e,c.size):=by simp[World.shape?,xh]
 have aeW:=Lib.liesAt_bytes (P:=P) hce (c.size/P.cellsOf e) t.length (by rw[hce];simpa using pT);have vt:t.length≠0:=by omega
 have akS:¬(9223372036854775807:Int)<(t.length:Int):=by unfold xN at h63;omega
 have akT:IntKind.i64.max=9223372036854775807:=rfl;have akU:¬(t.length:Int)<0:=by omega
 have hun:=hp;have fU:(Builtin.unsafeString_ eH ty #[.pointer (some ⟨b,0,none⟩),.int .i64 t.length]).run P w= .ok (.string ⟨t.toArray⟩) (w.freeze ⟨b,0,none⟩ t.length):=by
  rw[kL];have akV:Builtin.unsafeString_ #[pt,eH[1]'(by omega)] ty #[.pointer (some ⟨b,0,none⟩),.int .i64 t.length]=
   (do
    let n <- asInt (.int .i64 t.length)
    if n<0 then runtimePanic (.error "unsafe.String: len out of range")
    if n>IntKind.i64.max then unsupported (.unsafePointer "String: a length above the largest int")
    if n=0 then pure (.string .empty)
    else if <- variablesAt ⟨b,0,none⟩ (<- elemOf pt) n.toNat then do
     let s <- loadBytes ⟨b,0,none⟩ .empty n.toNat
     freeze ⟨b,0,none⟩ n.toNat
     pure (.string s)
    else unsupported (.unsafePointer "String: not so many bytes at ptr")):=rfl
  rw[akV];simp[asInt,asIntOf,akT,akS,akU,vt,variablesAt,Z8,elemOf,dz hp,aeW,aeV]
  done
 have h00:(0:Nat)+0=0:=rfl;refine⟨E,w.freeze ⟨b,0,none⟩ t.length,.string ⟨t.toArray⟩,.inl ?_,rfl,?_,fun _ _=>rfl,.inl ⟨rfl,rfl⟩⟩
 . rw[Sem.run_bind,h00,hl];rw[fU];rfl
 . have GC:eG h m:=⟨_,W,rfl⟩;have hbs:b<w.heap.size:=(aS.1 xh).1;refine iI.write g gT GC X (by unfold World.freeze;rw[aJ vt];simp) (by unfold World.freeze;rw[aJ vt]) (by unfold World.freeze;rw[aJ vt]) (by unfold World.freeze;rw[aJ vt]) (fun x M=>by unfold World.freeze;rw[aJ vt];simp only[cr];rw[aJ (Ne.symm M)]) ?_;refine⟨c,(if fz.1==fz.2 then(0,0+t.length)else(min fz.1 0,max fz.2 (0+t.length))),xs,by unfold World.freeze;rw[aJ vt];simp[cr,xh],rfl,mA,⟨.inr ?_,fun q=>by simp at q⟩,CR,mJ⟩;split
   . simp
   . rename_i q;have:¬fz.1=fz.2:=by simpa using q
     simp only[bI];omega
end
theorem CY{b:Int}:∀(xs:List (V×V×Nat)) (ys:List MapEntry) (i j:Nat),kX E xs ys->Am b xs i=some j->i<=j/\ys.findIdx? (fun e=>(e.born:Int)==b)=some (j-i)
 | [],_,i,j,r,e=>by simp[Am]at e
 |x::xs,_,i,j,r,e=>by
  obtain⟨y,ys,_,_,c,O,rfl⟩:=r;simp only[Am]at e;split at e
  . rename_i hb;obtain rfl:=eE e;refine⟨aC _,?_⟩;rw[List.findIdx?_cons,aF (by rw[c];exact hb)];simp
  . rename_i hb;obtain⟨X,h2⟩:=CY xs ys (i+1) j O e;refine⟨L,?_⟩;rw[List.findIdx?_cons,aJ (by rw[c];exact hb),h2];simp;omega
section
variable{t:TypeId}{h':H rs}{x:V}{n':Nat}{x':Value}{r:nx}
theorem EO{m s v:V}{m' s' v':Value}{r:nx}(g:Good E h w)(rm:dJ E m m')(O:dJ E s s')(rv:dJ E v v')(e:vf h n m s v=some r):
  kG P E h n w (do Instr.entryStore t m' s' v';pure .skip) r:=by
 unfold vf at e;split at e
 . rename_i m k b0;simp only[dJ]at O;subst O;split at e
   . rename_i C eD W;obtain⟨b,gi,hi,hb,B9⟩:=zh g W;obtain⟨b',kS,rfl⟩:=rm;rw[hi]at kS;cases kS;have uM:=fq (P:=P) hb (by intro _ _ _ q;cases q);have xZ:∀o',(setObj b o').run P w= .ok () { w with heap:=w.heap.setIfInBounds b o' }:=fun o'=>nj (P:=P) hb (by intro _ _ _ q;cases q);split at e
     . rename_i gT;cases hf:Am b0 C 0 with
       |none=>simp[hf]at e
       |some j=>
        simp only[hf,an]at e;subst e;obtain⟨_,h2⟩:=CY C gi.toList 0 j B9 hf;have h3:gi.findIdx? (fun e=>(e.born:Int)==b0)=some j:=by
         have q:=List.findIdx?_toArray (fun(e:MapEntry)=>(e.born:Int)==b0) gi.toList;rw[Array.toArray_toList]at q;rw[q];simpa using h2
        have KN:=zi (clock':=eD) (xx:=tJ C j fun e=>(e.1,v,e.2.2)) (BS:=gi.modify j fun e=>{ e with val:=v' }) g gT W hi hb (by
         rw[Array.toList_modify];exact qo (f:=fun e=>(e.1,v,e.2.2)) (f':=fun e=>{ e with val:=v' }) (fun x y p q s=>⟨p,rv,s⟩) C gi.toList j B9)
        refine⟨E,_,undef,.inr ⟨?_,rfl⟩,⟨[],rfl,rfl⟩,KN,fun _ _=>rfl,.inl ⟨rfl,rfl⟩⟩;simp only[Instr.entryStore,Sem.run_bind,uM,Result.andThen_ok,asInt,asIntOf,Sem.run_pure,h3,xZ]
     . cases e
   . cases e
 . cases e
theorem Bo{s:Sem Next}{o:rs}{ob:Obj}{v:V}{v':Value}(g:Good E h w)(hn:E.ι n=none)(e:newObj h n o=some (h',n'))
  (ho:∀E1 w1,w1.heap[w.heap.size]? =some ob->mC E1 w1 w.heap.size 0 o) (hr:s.run P w= .ok (.value v') (w.alloc ob)) (hv:dJ (E.put n w.heap.size 0 (kr ob)) v v'):kG P E h n w s (.val v h' n'):=by
 obtain⟨gT,rfl,rfl⟩:=lj e;exact⟨_,_,v',.inl hr,hv,iI.alloc g hn gT (ho _ _ heap_alloc_new),fun m W=>Env.fG W,.inr rfl⟩
theorem KR(g:Good E h w)(hn:E.ι n=none)(e:newObj h n (.map [] 0)=some (h',n')):
  kG P E h n w (do pure (.value (<- Instr.makeMap t none))) (.val (.map (some n)) h' n'):=by
 refine Bo (ob:=.map #[] 0) (v':=.map (some w.heap.size)) g hn e (fun E1 w1 q=>⟨rfl,#[],q,by simp[kX]⟩) ?_ ⟨w.heap.size,Env.ff,rfl⟩;simp[Instr.makeMap]
theorem Ra(g:Good E h w)(hn:E.ι n=none)(rx:dJ E x x')(e:CD P t x h n=some r):
  kG P E h n w (do pure (.value (<- Instr.range t x'))) r:=by
 unfold CD at e;split at e
 . rename_i s hu;simp only[dJ]at rx;subst rx;cases ho:newObj h n (.oh s 0)with
   |none=>simp[ho]at e
   |some p=>
    obtain⟨h',n'⟩:=p;simp only[ho,an]at e;subst e;refine Bo (ob:=.stringIter ⟨s.toArray⟩ 0) (v':=.pointer (some ⟨w.heap.size,0,none⟩)) g hn ho (fun E1 w1 q=>⟨rfl,q⟩) ?_ ⟨w.heap.size,0,Env.ff,by simp⟩;simp[Instr.range,dz hu]
 . cases e
theorem Vz{b:Bool}{t:TypeId}{x':Value}{r:nx}(g:Good E h w)(rx:dJ E x x')(e:QD x b h n=some r):
  kG P E h n w (do pure (.value (<- Instr.next x' b t))) r:=by
 unfold QD at e;split at e
 . rename_i m;obtain⟨b0,s0,hi,rfl⟩:=rx;split at e
   . rename_i s pos W;obtain⟨b1,s1,hi1,fQ,hb⟩:=g.rel m _ W;rw[hi]at hi1;cases hi1;subst fQ;have uM:=fq (P:=P) hb (by intro _ _ _ q;cases q);have xZ:∀o',(setObj b0 o').run P w= .ok () { w with heap:=w.heap.setIfInBounds b0 o' }:=fun o'=>nj (P:=P) hb (by intro _ _ _ q;cases q);have fH:b0<w.heap.size:=(aS.1 hb).1;have mA:(⟨s.toArray⟩:ByteArray).size=s.length:=by show s.toArray.size=_;simp
     split at e
     . rename_i hp;simp only at e;split at e
       . rename_i gT;obtain rfl:=eE e;have KN:iI E h w E (h.set m (some (.oh s (pos+(Utf8.decode ⟨s.toArray⟩ pos).2)))) { w with heap:=w.heap.setIfInBounds b0 (.stringIter ⟨s.toArray⟩ (pos+(Utf8.decode ⟨s.toArray⟩ pos).2)) }:=by
          refine iI.write g gT ⟨_,W,rfl⟩ hi (by simp) rfl rfl rfl (fun x M=>?_) ⟨rfl,?_⟩
          . simp[Ne.symm M]
          . simp[fH]
         refine⟨E,_,.tuple #[.bool true,.int .i64 pos,.int .i32 (Utf8.decode ⟨s.toArray⟩ pos).1],.inl ?_,⟨[.bool true,.int .i64 pos,.int .i32 (Utf8.decode ⟨s.toArray⟩ pos).1],⟨_,_,rfl,⟨_,_,rfl,⟨_,_,rfl,rfl,rfl⟩,rfl⟩,rfl⟩,rfl⟩,KN,fun _ _=>rfl,.inl ⟨rfl,rfl⟩⟩;simp[Instr.next,uM,mA,hp,xZ,goInt]
       . cases e
     . rename_i hp;obtain rfl:=eE e;refine ee g (v':=.tuple #[.bool false]) ?_ ⟨[.bool false],⟨_,_,rfl,rfl,rfl⟩,rfl⟩;simp[Instr.next,uM,mA,hp]
   . cases e
 . cases e
end
end
section
variable{P:Program}{E:Env}{h:H rs}{n:Nat}{w:World}{S:H V}{ρ:Operand->Value}
def mX(E:Env)(S:H V)(ρ:Operand->Value)(x:Operand):Prop:=∀v,iX S x=some v->dJ E v (ρ x)
theorem vy:∀(xs:List Operand) (vs:ag),(∀x∈xs,mX E S ρ x)->vj S xs=some vs->dK E vs (xs.map ρ)
 | [],vs,_,e=>by simp only[vj,an]at e;subst e;rfl
 |x::xs,vs,hr,e=>by
  simp only[vj]at e;cases X:iX S x with
  |none=>simp[X]at e
  |some v=>cases h2:vj S xs with
   |none=>simp[X,h2]at e
   |some r=>
    simp only[X,h2,an]at e;subst e;exact⟨ρ x,xs.map ρ,hr x (by simp) v X,vy xs r (fun y hy=>hr y (by simp[hy])) h2,rfl⟩
theorem tU:∀(xs:List (Nat×Operand)) (vs:List (Nat×V)),(∀x∈xs.map (·.2),mX E S ρ x)->qK S xs=some vs->Bk E vs (xs.map fun x=>(x.1,ρ x.2))
 | [],vs,_,e=>by simp only[qK,an]at e;subst e;rfl
 |(i,x)::xs,vs,hr,e=>by
  simp only[qK]at e;cases X:iX S x with
  |none=>simp[X]at e
  |some v=>cases h2:qK S xs with
   |none=>simp[X,h2]at e
   |some r=>
    simp only[X,h2,an]at e;subst e;exact⟨(i,ρ x),_,rfl,hr x (by simp) v X,tU xs r (fun y hy=>hr y (by simp at hy ⊢;exact .inr hy)) h2,rfl⟩
theorem x4{x:Option Operand}{v:Option V}(hr:∀y,x=some y->mX E S ρ y)(e:mS S x=some v):oH E v (x.map ρ):=by
 cases x with
 |none=>simp only[mS,an]at e;subst e;rfl
 |some x=>
  simp only[mS]at e;cases X:iX S x with
  |none=>simp[X]at e
  |some y=>simp only[X,an]at e;subst e;exact⟨ρ x,hr x rfl y X,rfl⟩
theorem gd{v:Option V}{r:nx}(e:nu h n v=some r):∃x,v=some x/\r= .val x h n:=by
 cases v with
 |none=>simp[nu]at e
 |some x=>simp only[nu,an]at e;exact⟨x,rfl,e.symm⟩
theorem qp{f:FuncId}{args:Array Value}(J:callee P f=true):(callFunc f args).run P w= .ok (.enter f args) w:=by
 unfold callee at J;split at J
 . rename_i fn hf;simp only[aE,bne_iff_ne,ne_eq]at J;obtain⟨X,h2⟩:=J;have h3:fn.body.isNone=false:=by cases hb:fn.body<;>simp_all
   have h4:(fn.name == "runtime.NumGoroutine")=false:=by simpa using h2
   simp only[callFunc,Sem.run_bind,run_program,Result.andThen_ok,hf,h4,h3,aP,cJ];rfl
 . cases J
theorem KS{c:Call}{ty:TypeId}{r:nx}(g:Good E h w)(hn:E.ι n=none)(hr:∀x∈c.operands,mX E S ρ x)(e:xp P S c h n=some r):
  kG P E h n w (do let d <- resolve ρ c ty;invoke d.target d.args) r:=by
 unfold xp at e;split at e
 . rename_i args ha;have oq:=vy (E:=E) (ρ:=ρ) c.args.toList args (fun x M=>hr x (by simp[Call.operands];exact .inr (by simpa using M))) ha;have GO:c.args.map ρ=(c.args.toList.map ρ).toArray:=by apply Array.ext';simp
   split at e
   . rename_i b J;unfold lU at e;split at e
     . split at e
       . rename_i h2;have:=OI (P:=P) (ty:=ty) g hn oq e h2;simpa[resolve,J,invoke,builtin,GO]using this
       . cases e
     . obtain⟨v,X,rfl⟩:=gd e;have:=aad (P:=P) (n:=n) (ty:=ty) g oq X;simpa[resolve,J,invoke,builtin,GO]using this
     . split at e
       . obtain⟨v,X,rfl⟩:=gd e;have:=aae (P:=P) (n:=n) (eH:=c.argTypes) (ty:=ty) g oq X;simpa[resolve,J,invoke,builtin,GO]using this
       . cases e
     . split at e
       . obtain⟨v,X,rfl⟩:=gd e;have:=aaf (P:=P) (n:=n) (eH:=c.argTypes) (ty:=ty) g oq X;simpa[resolve,J,invoke,builtin,GO]using this
       . cases e
     . split at e
       . rename_i t v;obtain rfl:=eE e;obtain⟨x',_,⟨y,ry,rfl⟩,qP,hl⟩:=oq;simp only[dK]at qP;subst qP;have h0:(c.args.map ρ).getD 0 .nilIface= .iface t y:=by rw[GO,hl];rfl
         refine⟨.iface t y,?_,y,ry,rfl⟩;simp only[resolve,J,pure_bind,invoke,builtin];rw[h0];rfl
       . cases e
     . obtain rfl:=eE e;show _=_;simp[resolve,J,invoke,builtin]
     . split at e
       . split at e
         . rename_i qn;obtain rfl:=eE e;have:=GN (P:=P) (n:=n) (eH:=c.argTypes) (ty:=ty) g oq qn;simpa[resolve,J,invoke,builtin,GO]using this
         . cases e
       . cases e
     . split at e
       . rename_i pt m l ha0;split at e
         . rename_i e0 el Bg s hp W;split at e
           . rename_i hq;obtain⟨⟨q1,q2⟩,⟨rfl,q3⟩,q4,q5,q6⟩:=hq;obtain rfl:=eE e;have:=BT (P:=P) (n:=n) (eH:=c.argTypes) (ty:=ty) g oq ha0 q5 hp W q1 q2 q3 q4 q6;simpa[resolve,J,invoke,builtin,GO]using this
           . cases e
         . cases e
       . cases e
     . split at e
       . rename_i h2;have:=ON (P:=P) (ty:=ty) g oq h2 e;simpa[resolve,J,invoke,builtin,GO]using this
       . cases e
     . cases e
   . cases e
   . rename_i f J;split at e
     . rename_i gf first captured hf
       split at e
       . rename_i vz;obtain rfl:=eE e;obtain⟨f',fi,ca,OO,r1,r2,hfe⟩:=hr f (by simp[Call.operands,J]) _ hf;simp only[yV]at OO;subst OO;refine⟨fi++c.args.toList.map ρ++ca,iM (iM r1 oq) r2,.inl ⟨?_,vz⟩⟩;have pg:=qp (w:=w) (args:=(fi++c.args.toList.map ρ++ca).toArray) vz;simp only[resolve,J,hfe,Deferred.ofValue,pure_bind,invoke];rw[<- pg];congr 2;apply Array.ext';simp
       . cases e
     . rename_i m hf;obtain⟨f',fi,ca,⟨l,s,jl,OO⟩,r1,r2,hfe⟩:=hr f (by simp[Call.operands,J]) _ hf;subst OO;simp only[dK]at r1 r2;subst r1;subst r2;split at e
       . split at e
         . obtain rfl:=eE e;refine⟨c.args.toList.map ρ,oq,.inr ⟨m,l,s,rfl,jl,?_⟩⟩;simp only[resolve,J,hfe,Deferred.ofValue,pure_bind,invoke,GO];simp
         . cases e
       . cases e
     . cases e
 . cases e
theorem II{c:Call}{ty:TypeId}{r:nx}(hr:∀x∈c.operands,mX E S ρ x)(e:CE S c=some r):
  kG P E h n w (do pure (.defer (<- resolve ρ c ty))) r:=by
 unfold CE at e;split at e
 . rename_i args ha;have oq:=vy (E:=E) (ρ:=ρ) c.args.toList args (fun x M=>hr x (by simp[Call.operands];exact .inr (by simpa using M))) ha;split at e
   . rename_i f J;split at e
     . rename_i gf first captured hf
       obtain rfl:=eE e;obtain⟨f',fi,ca,OO,r1,r2,hfe⟩:=hr f (by simp[Call.operands,J]) _ hf;simp only[yV]at OO;subst OO;refine⟨ca,fi++c.args.toList.map ρ,?_,r2,iM r1 oq⟩;simp only[resolve,J,hfe,Deferred.ofValue,pure_bind];show Result.ok _ w=_;congr 3;apply Array.ext';simp
     . cases e
   . cases e
 . cases e
set_option maxHeartbeats 1000000 in
theorem mY{o:Oper}{r:nx}(g:Good E h w)(hn:E.ι n=none)(hr:∀x∈o.op.operands,mX E S ρ x)(e:dH P o S h n=some r):kG P E h n w (execOp ρ o) r:=by
 obtain⟨dst,op,ty,pos,after,guard⟩:=o;simp only at hr;cases op<;>simp only[dH]at e<;>simp only[Op.operands]at hr<;>simp only[execOp]
 case move x=>
  obtain⟨v,X,rfl⟩:=gd e;exact ee g rfl (hr x (by simp) v X)
 case assign x=>
  obtain⟨v,X,rfl⟩:=gd e;exact ee g rfl (hr x (by simp) v X)
 case pick c x y=>
  split at e
  . rename_i J;obtain⟨v,X,rfl⟩:=gd e;have rc:=hr c (by simp) _ J;simp only[dJ]at rc;exact ee g (by simp[rc,asBool]) (hr x (by simp) v X)
  . rename_i J;obtain⟨v,X,rfl⟩:=gd e;have rc:=hr c (by simp) _ J;simp only[dJ]at rc;exact ee g (by simp[rc,asBool]) (hr y (by simp) v X)
  . cases e
 case alloc t=>
  split at e
  . rename_i z hz;split at e
    . rename_i h' n' ho;obtain rfl:=eE e;exact QS g hn hz ho
    . cases e
  . cases e
 case box t x=>
  split at e
  . rename_i v hv;split at e
    . rename_i h' n' ho;obtain rfl:=eE e;exact Z4 g hn (hr x (by simp) v hv) ho
    . cases e
  . cases e
 case build t parts=>
  split at e
  . rename_i ps Fw;obtain⟨v,X,rfl⟩:=gd e;have hp:=tU (E:=E) (ρ:=ρ) parts.toList ps (fun x M=>hr x (by simpa using M)) Fw;have hq:Bk E ps (parts.map fun(i,x)=>(i,ρ x)).toList:=by simpa using hp
    obtain⟨v',q1,q2⟩:=OD (P:=P) (w:=w) hq X;refine ee g (v':=v') ?_ q2;simp only[Sem.run_bind,q1,Result.andThen_ok,Sem.run_pure]
  . cases e
 case buildSlice t T parts=>
  split at e
  . rename_i ps Fw;have hp:=tU (E:=E) (ρ:=ρ) parts.toList ps (fun x M=>hr x (by simpa using M)) Fw;have hq:Bk E ps (parts.map fun(i,x)=>(i,ρ x)).toList:=by simpa using hp
    have:=EI (P:=P) (w:=w) (t:=t) (T:=T) g hn hq e;exact this
  . cases e
 case load t x=>
  split at e
  . rename_i v hv;obtain⟨u,X,rfl⟩:=gd e;exact Vn g (hr x (by simp) v hv) X
  . cases e
 case store t x y=>
  split at e
  . rename_i a v ha hv;split at e
    . rename_i h' hs;obtain rfl:=eE e;exact QU g (hr x (by simp) a ha) (hr y (by simp) v hv) hs
    . cases e
  . cases e
 case nilCheck x=>
  split at e
  . rename_i p hv;obtain rfl:=eE e;have M:=hr x (by simp) _ hv;obtain⟨b,s,q1,q2⟩:=M;rw[q2];exact ee g (v':=.pointer (some ⟨b,s+p.2,none⟩)) rfl ⟨b,s,q1,rfl⟩
  . rename_i Q hv;obtain rfl:=eE e;have M:=hr x (by simp) _ hv;obtain⟨b,o,c,vs,q1,q2⟩:=M;rw[q1];exact ee g (v':=.pointer (some ⟨b,o,none⟩)) rfl ⟨b,o,c,vs,rfl,q2⟩
  . rename_i f a c hv;obtain rfl:=eE e;have M:=hr x (by simp) _ hv;obtain⟨f',a',c',q0,q1,q2,q3⟩:=M;simp only[yV]at q0;subst q0;rw[q3];exact ee g (v':=.func (.func f) a'.toArray c'.toArray) rfl ⟨_,a',c',rfl,q1,q2,rfl⟩
  . rename_i t v hv;obtain rfl:=eE e;have M:=hr x (by simp) _ hv;obtain⟨y,q1,q2⟩:=M;rw[q2];exact ee g (v':=.iface t y) rfl ⟨y,q1,rfl⟩
  . cases e
 case binOp op t x y yt=>
  split at e
  . rename_i a b ha hb;obtain⟨u,X,rfl⟩:=gd e;exact QY g (hr x (by simp) a ha) (hr y (by simp) b hb) X
  . cases e
 case unOp op t x=>
  split at e
  . rename_i v hv;obtain⟨u,X,rfl⟩:=gd e;exact Vq g (hr x (by simp) v hv) X
  . cases e
 case convert s d x=>
  split at e
  . rename_i v hv;exact KL g hn (hr x (by simp) v hv) e
  . cases e
 case makeInterface t x=>
  split at e
  . rename_i v d hv hu;split at e
    . cases e
    . rename_i hd;obtain rfl:=eE e;have M:=hr x (by simp) v hv;refine ee g (v':=.iface t (ρ x)) ?_ ⟨ρ x,M,rfl⟩;simp only[Instr.makeInterface,Sem.run_bind,dz hu,Result.andThen_ok];cases d<;>first|(exact absurd rfl (hd _))|rfl
  . cases e
 case makeFunc f first captured=>
  split at e
  . rename_i a c ha J;split at e
    case isFalse=>cases e
    rename_i hny;obtain rfl:=eE e;have U4:yV E f f:=by cases f<;>first|rfl|cases hny
    have r1:=vy (E:=E) (ρ:=ρ) first.toList a (fun x M=>hr x (by simp at M ⊢;exact .inl M)) ha
    have r2:=vy (E:=E) (ρ:=ρ) captured.toList c (fun x M=>hr x (by simp at M ⊢;exact .inr M)) J;refine ee g (v':=.func f (first.map ρ) (captured.map ρ)) rfl ⟨f,first.toList.map ρ,captured.toList.map ρ,U4,r1,r2,?_⟩;congr 1<;>(apply Array.ext';simp)
  . cases e
 case makeMap t Rb=>
  cases Rb with
  |some _=>simp at e
  |none=>
   simp only at e;split at e
   . rename_i h' n' ho;obtain rfl:=eE e;exact KR g hn ho
   . cases e
 case makeSlice t l c=>
  split at e
  . rename_i lv cv hl J;exact GK g hn (hr l (by simp) lv hl) (hr c (by simp) cv J) e
  . cases e
 case slice t x lo hi mx=>
  split at e
  . rename_i v lov hiv mxv hv Bm M3 hmx;obtain⟨u,X,rfl⟩:=gd e;refine Q3 g (hr x (by simp) v hv) (x4 (fun y hy=>hr y ?_) Bm) (x4 (fun y hy=>hr y ?_) M3) (x4 (fun y hy=>hr y ?_) hmx) X
    . subst hy;simp
    . subst hy;simp
    . subst hy;simp
  . cases e
 case fieldAddr t x f=>
  split at e
  . rename_i v hv;obtain⟨u,X,rfl⟩:=gd e;exact GH g (hr x (by simp) v hv) X
  . cases e
 case field t x f=>
  split at e
  . rename_i v hv;obtain⟨u,X,rfl⟩:=gd e;exact Q0 g (hr x (by simp) v hv) X
  . cases e
 case indexAddr t x i=>
  split at e
  . rename_i v iv hv hi;obtain⟨u,X,rfl⟩:=gd e;exact GI g (hr x (by simp) v hv) (hr i (by simp) iv hi) X
  . cases e
 case index t x i=>
  split at e
  . rename_i v iv hv hi;obtain⟨u,X,rfl⟩:=gd e;exact Q2 g (hr x (by simp) v hv) (hr i (by simp) iv hi) X
  . cases e
 case lookup t x k ok=>
  split at e
  . rename_i v kv hv hk;obtain⟨u,X,rfl⟩:=gd e;exact OM g (hr x (by simp) v hv) (hr k (by simp) kv hk) X
  . cases e
 case mapUpdate t m k v=>
  split at e
  . rename_i mv kv vv W hk hv;exact zk g (hr m (by simp) mv W) (hr k (by simp) kv hk) (hr v (by simp) vv hv) e
  . cases e
 case insert t m k v=>
  split at e
  . rename_i mv kv vv W hk hv;exact zk g (hr m (by simp) mv W) (hr k (by simp) kv hk) (hr v (by simp) vv hv) e
  . cases e
 case mapEntry t m k=>
  split at e
  . rename_i mv kv W hk;exact IG g (hr m (by simp) mv W) (hr k (by simp) kv hk) e
  . cases e
 case entryStore t m s v=>
  split at e
  . rename_i mv sv vv W hs hv;exact EO g (hr m (by simp) mv W) (hr s (by simp) sv hs) (hr v (by simp) vv hv) e
  . cases e
 case range t x=>
  split at e
  . rename_i v hv;exact Ra g hn (hr x (by simp) v hv) e
  . cases e
 case next it b=>
  split at e
  . rename_i v hv;exact Vz g (hr it (by simp) v hv) e
  . cases e
 case typeAssert x xt t ok=>
  split at e
  . rename_i v hv;obtain⟨u,X,rfl⟩:=gd e;exact EK g (hr x (by simp) v hv) X
  . cases e
 case extract x i=>
  split at e
  . rename_i vs hv;obtain⟨u,X,rfl⟩:=gd e;exact KJ g (hr x (by simp) _ hv) X
  . cases e
 case panic x=>
  split at e
  . rename_i t v hv;obtain rfl:=eE e;obtain⟨y,q1,q2⟩:=hr x (by simp) _ hv;refine⟨.iface t y,?_,y,q1,rfl⟩;rw[q2];simp[Instr.panic]
  . cases e
 case call c=>exact KS g hn hr e
 case defer c=>exact II hr e
 all_goals (cases e)
end
def zl(E:Env)(S:H V)(a:Act):Prop:=∀t v,S.get t=some v->∃v',a.tmps[t]? =some v'/\dJ E v v'
theorem ku{E E':Env}(h:E.le E'){S:H V}{a:Act}(r:zl E S a):zl E' S a:=fun t v e=>let⟨v',X,h2⟩:=r t v e;⟨v',X,jx h v v' h2⟩
section
variable(a:Act){E:Env}(dst:Option Tmp){S:H V}
theorem iR(v:Value):(a.put dst v).tmps.size=a.tmps.size:=by cases dst<;>simp[Act.put]
theorem gF(v:Value):(a.put dst v).defers=a.defers:=by cases dst<;>rfl
def nM(rt:Nat)(dst:Option Tmp):Prop:=∀d,dst=some d->d<rt
theorem jO{fr':H V}{a:Act}{dst:Option Tmp}{v:V}{v':Value}(r:zl E S a)(e:jj S dst v=some fr')(hv:dJ E v v')(hd:nM a.tmps.size dst):zl E fr' (a.put dst v'):=by
 cases dst with
 |none=>simp only[jj,an]at e;subst e;exact r
 |some d=>
  simp only[jj]at e;split at e
  . rename_i ht;obtain rfl:=eE e;intro t x M;rw[H.eY _ _ _ ht]at M;have fH:=hd d rfl;by_cases q:t=d
    . subst q;rw[aF rfl]at M;cases M;exact⟨v',by simp[Act.put,fH],hv⟩
    . rw[aJ q]at M;obtain⟨y,X,h2⟩:=r t x M;exact⟨y,by simp[Act.put,Ne.symm q,X],h2⟩
  . cases e
theorem iS{a:Act}(ge:GE E)(r:zl E S a)(x:Operand):mX E S a.eval x:=by
 intro v e;cases x with
 |tmp t=>obtain⟨v',X,h2⟩:=r t v e;simp only[Act.eval,ck,X];exact h2
 |const c=>exact Ar e
 |func f=>simp only[iX,an]at e;subst e;exact⟨_,[],[],rfl,rfl,rfl,rfl⟩
 |global g=>exact Il ge e
end
theorem x5{E:Env}{ops:Array Oper}{o:Oper}{S:H V}{a:Act}{b:Bool}(r:∀j Kw q d,o.guard=some (j,Kw)->ops[j]? =some q->q.dst=some d->∀v,S.get d=some v->∃v',a.tmps[d]? =some v'/\dJ E v v')(e:iL ops o S=some b):
  Region.wanted o (yielded ops a.tmps)=b:=by
 unfold iL at e;unfold Region.wanted;cases hg:o.guard with
 |none=>simp only[hg,an]at e ⊢;exact e
 |some p=>
  obtain⟨j,Kw⟩:=p;simp only[hg]at e ⊢;cases hj:ops[j]? with
  |none=>simp[hj]at e
  |some q=>
   simp only[hj]at e;cases hd:q.dst with
   |none=>simp[hd]at e
   |some d=>
    simp only[hd]at e;cases hf:S.get d with
    |none=>simp[hf]at e
    |some v=>
     obtain⟨v',X,h2⟩:=r j Kw q d hg hj hd v hf;have hy:yielded ops a.tmps j=(match(some v':Option Value)with|some (.bool b)=>some b|_=>none):=by
      unfold yielded;rw[hj];simp only[Option.bind_some,hd,X];cases v'<;>rfl
     cases v with
     |bool b0=>
      simp only[hf,an]at e;simp only[dJ]at h2;subst h2;rw[hy,<- e];cases b0<;>cases Kw<;>rfl
     |ew vs=>
      cases vs with
      |nil=>
       simp only[hf,an]at e;obtain⟨l,hl,rfl⟩:=h2;rw[hy,<- e];rfl
      |cons _ _=>simp[hf]at e
     |_=>simp[hf]at e
def rL(E:Env)(n:Nat):Prop:=∀m,n<=m->E.ι m=none
def tV(E:Env):QG->Ending->Prop
 | .ret v,.returned v'=>dJ E v v'
 | .An v,.panicked chain=>∃v',dJ E v v'/\chain=[{ v:=v',recovered:=false }]
 |_,_=>False
def fz(nx:Option Nat):Fence:={ Fence.wide with round:=nx }
def kz(E:Env)(h:H rs)(n:Nat)(w:World)(uH:QG)(h':H rs)(n':Nat)(e:Ending)(w':World):Prop:=
 ∃E',iI E h w E' h' w'/\(∀m,m<n->E'.ι m=E.ι m)/\rL E' n'/\n<=n'/\tV E' uH e
def jt(P:Program)(cf:ga):Prop:=∀f args h n uH h' n',cf f args h n=some (uH,h',n')->∀E w dm,dK E args dm->Good E h w->rL E n->
 (callee P f=true->Calls P f dm.toArray w (kz E h n w uH h' n'))/\
 (∀m l s,f=P.funcs.size+m->E.ι m=some (l,s)->YieldAt Fence.wide 0 P l dm.toArray w (kz E h n w uH h' n'))
theorem lZ{nx:Option Nat}{ρ:Operand->Value}{o:Oper}(h:∀c,o.op≠ .defer c):Oper.semAt nx ρ o=execOp ρ o:=by
 cases nx with
 |none=>exact Oper.semAt_none ..
 |some l=>exact Oper.semAt_some l ρ o h
theorem KT{S:H V}{c:Call}{r:nx}(e:CE S c=some r):∃f a b,r= .nf f a b:=by
 unfold CE at e;split at e
 . split at e
   . split at e
     . simp only[an]at e;exact⟨_,_,_,e.symm⟩
     . cases e
   . cases e
 . cases e
section
variable{P:Program}{E:Env}{h h':H rs}{n n':Nat}{w:World}{S:H V}{a:Act}{o:Oper}{hL:Act->World->Prop}{cs:Exit->Act->World->Prop}{vA:Option Nat}
theorem wM{r:nx}(e:dH P o S h n=some r)(hr:∀f a b,r≠ .nf f a b):∀c,o.op≠ .defer c:=by
 intro c J;simp only[dH,J]at e;obtain⟨f,x,y,q⟩:=KT e;exact hr f x y q
theorem CZ{v:V}(g:Good E h w)(hn:E.ι n=none)(hr:∀x∈o.op.operands,mX E S a.eval x)(e:dH P o S h n=some (.val v h' n'))
  (hk:∀E' w' v',dJ E' v v'->iI E h w E' h' w'->(∀m,m≠n->E'.ι m=E.ι m)->((n'=n/\E'=E)\/n'=n+1)->hL (a.put o.dst v') w'):o.wpIn (fz vA) 0 P a w hL cs:=by
 obtain⟨E',w',v',fU,X,h2,h3,h4⟩:=mY g hn hr e;refine⟨fun _ _=>trivial,?_⟩;rw[lZ (wM e fun _ _ _=>by simp)];rcases fU with fU|⟨fU,rfl⟩
 . rw[fU,Oper.uponIn_value];exact hk E' w' v' X h2 h3 h4
 . rw[fU,Oper.uponIn_skip];exact hk E' w' undef X h2 h3 h4
theorem Ca{cf:ga}{f:FuncId}{args:ag}{uH:QG}(pg:jt P cf)(g:Good E h w)(hn:rL E n)(hr:∀x∈o.op.operands,mX E S a.eval x)
  (e:dH P o S h n=some (.call f args)) (ec:cf f args h n=some (uH,h',n'))
  (hk:∀E' w',iI E h w E' h' w'->(∀m,m<n->E'.ι m=E.ι m)->rL E' n'->n<=n'->
   match uH with
   | .ret v=>∀v',dJ E' v v'->hL (a.put o.dst v') w'
   | .An v=>∀v',dJ E' v v'->cs (.panic [{ v:=v',recovered:=false }]) a w'):o.wpIn (fz vA) 0 P a w hL cs:=by
 obtain⟨dm,X,fU⟩:=mY g (hn n (aC _)) hr e;refine⟨fun _ _=>trivial,?_⟩;rw[lZ (wM e fun _ _ _=>by simp)];have Fx:∀en w',kz E h n w uH h' n' en w'->(match en,w' with
  | .returned v,w''=>hL (a.put o.dst v) w''
  | .panicked chain,w''=>cs (.panic chain) a w''
  | .outgrown,_=>LetsOut cs):=fun en w' ⟨E',u1,u2,u3,u4,u5⟩=>by
  have:=hk E' w' u1 u2 u3 u4;cases uH with
  |ret v=>cases en with
   |returned v'=>exact this v' u5
   |panicked _=>exact u5.elim
   |outgrown=>exact u5.elim
  |An v=>cases en with
   |returned v'=>exact u5.elim
   |panicked chain=>obtain⟨v',q1,rfl⟩:=u5;exact this v' q1
   |outgrown=>exact u5.elim
 rcases fU with⟨fU,h2⟩|⟨m,l,s,h2,h3,fU⟩
 . rw[fU,Oper.uponIn_enter];have J:CallsIn Fence.wide (0-1) P f dm.toArray w _:=callsIn_wide.2 (((pg f args h n uH h' n' ec E w dm X g hn).1 h2).mono Fx);exact⟨fun hd=>by simp[fz,Fence.wide]at hd,J⟩
 . obtain⟨fn,tmps,assign,body,q1,q2⟩:=(pg f args h n uH h' n' ec E w dm X g hn).2 m l s h2 h3;rw[fU,q1,Oper.uponIn_round];have J:RoundIn Fence.wide (0-1) P l fn tmps assign body w _:=q2.mono Fx;exact⟨fun hd=>by simp[fz,Fence.wide]at hd,J⟩
theorem Rc{v:V}(g:Good E h w)(hn:E.ι n=none)(hr:∀x∈o.op.operands,mX E S a.eval x)(e:dH P o S h n=some (.panic v))
  (hk:∀v',dJ E v v'->cs (.panic [{ v:=v',recovered:=false }]) a w):o.wpIn (fz vA) 0 P a w hL cs:=by
 obtain⟨v',fU,X⟩:=mY g hn hr e;refine⟨fun _ _=>trivial,?_⟩;rw[lZ (wM e fun _ _ _=>by simp)];rw[fU,Oper.uponIn_panic];exact hk v' X
theorem aah{f:FuncId}{c args:ag}(VA:vA=none)(g:Good E h w)(hn:E.ι n=none)(hr:∀x∈o.op.operands,mX E S a.eval x)(e:dH P o S h n=some (.nf f c args))
  (hk:∀c' dm,dK E c c'->dK E args dm->hL ({ a with defers:={ target:=.fn (.func f) c'.toArray,args:=dm.toArray }::a.defers }.put o.dst undef) w):o.wpIn (fz vA) 0 P a w hL cs:=by
 subst VA;obtain⟨c',dm,fU,X,h2⟩:=mY g hn hr e;refine⟨fun _ _=>trivial,?_⟩;show o.uponIn (fz none) 0 P a hL cs ((Oper.semAt none a.eval o).run P w);rw[Oper.semAt_none,fU,Oper.uponIn_defer];exact hk c' dm X h2
end
def Sub(x y:H rs):Prop:=∀k b,x.get k=some b->y.get k=some b
section
variable{P:Program}{S:H V}{x:H rs}{n:Nat}
theorem IJ{o:Oper}{r:nx}(hp:qL o.op=true)(e:dH P o S x n=some r):∃v,r= .val v x n/\∀(y:H rs) (k:Nat),dH P o S y k=some (.val v y k):=by
 obtain⟨dst,op,ty,pos,after,guard⟩:=o;simp only at hp;cases op<;>simp only[qL]at hp<;>first|(cases hp;done)|skip
 all_goals simp only[dH]at e
 case move a=>obtain⟨v,X,rfl⟩:=gd e;exact⟨v,rfl,fun y k=>by simp only[dH,X,nu]⟩
 case assign a=>obtain⟨v,X,rfl⟩:=gd e;exact⟨v,rfl,fun y k=>by simp only[dH,X,nu]⟩
 case pick c a b=>
  split at e
  . rename_i J;obtain⟨v,X,rfl⟩:=gd e;exact⟨v,rfl,fun y k=>by simp only[dH,J,X,nu]⟩
  . rename_i J;obtain⟨v,X,rfl⟩:=gd e;exact⟨v,rfl,fun y k=>by simp only[dH,J,X,nu]⟩
  . cases e
 case build t parts=>
  split at e
  . rename_i ps J;obtain⟨v,X,rfl⟩:=gd e;exact⟨v,rfl,fun y k=>by simp only[dH,J,X,nu]⟩
  . cases e
 case nilCheck a=>
  split at e
  . rename_i p J;obtain rfl:=eE e;exact⟨_,rfl,fun y k=>by simp only[dH,J]⟩
  . rename_i J;obtain rfl:=eE e;exact⟨_,rfl,fun y k=>by simp only[dH,J]⟩
  . rename_i J;obtain rfl:=eE e;exact⟨_,rfl,fun y k=>by simp only[dH,J]⟩
  . rename_i t v J;obtain rfl:=eE e;exact⟨_,rfl,fun y k=>by simp only[dH,J]⟩
  . cases e
 case binOp op t a b yt=>
  split at e
  . rename_i u w X h2;obtain⟨v,h3,rfl⟩:=gd e;exact⟨v,rfl,fun y k=>by simp only[dH,X,h2,h3,nu]⟩
  . cases e
 case unOp op t a=>
  split at e
  . rename_i u X;obtain⟨v,h3,rfl⟩:=gd e;exact⟨v,rfl,fun y k=>by simp only[dH,X,h3,nu]⟩
  . cases e
 case makeInterface t a=>
  split at e
  . rename_i v d X h2;split at e
    . cases e
    . rename_i hd;obtain rfl:=eE e;refine⟨_,rfl,fun y k=>?_⟩;simp only[dH,X,h2]
  . cases e
 case makeFunc f a c=>
  split at e
  . rename_i u w X h2;split at e
    case isFalse=>cases e
    rename_i hny;obtain rfl:=eE e;exact⟨_,rfl,fun y k=>by simp only[dH,X,h2,hny,if_true]⟩
  . cases e
 case fieldAddr t a f=>
  split at e
  . rename_i u X;obtain⟨v,h3,rfl⟩:=gd e;exact⟨v,rfl,fun y k=>by simp only[dH,X,h3,nu]⟩
  . cases e
 case field t a f=>
  split at e
  . rename_i u X;obtain⟨v,h3,rfl⟩:=gd e;exact⟨v,rfl,fun y k=>by simp only[dH,X,h3,nu]⟩
  . cases e
 case indexAddr t a i=>
  split at e
  . rename_i u w X h2;obtain⟨v,h3,rfl⟩:=gd e;exact⟨v,rfl,fun y k=>by simp only[dH,X,h2,h3,nu]⟩
  . cases e
 case index t a i=>
  split at e
  . rename_i u w X h2;obtain⟨v,h3,rfl⟩:=gd e;exact⟨v,rfl,fun y k=>by simp only[dH,X,h2,h3,nu]⟩
  . cases e
 case typeAssert a s t ok=>
  split at e
  . rename_i u X;obtain⟨v,h3,rfl⟩:=gd e;exact⟨v,rfl,fun y k=>by simp only[dH,X,h3,nu]⟩
  . cases e
 case extract a i=>
  split at e
  . rename_i vs X;obtain⟨v,h3,rfl⟩:=gd e;exact⟨v,rfl,fun y k=>by simp only[dH,X,h3,nu]⟩
  . cases e
section
variable{t:TypeId}{o:Oper}{a:V}{r:nx}
theorem IK{v:V}{y:H rs}(hs:Sub x y)(e:loadAt P t x a=some v):loadAt P t y a=some v:=by
 unfold loadAt at e ⊢;split at e
 . rename_i m o;split at e
   . rename_i Q W;simp only[hs m _ W];exact e
   . rename_i k ks W;simp only[hs m _ W];exact e
   . rename_i k ks W;simp only[hs m _ W];exact e
   . rename_i Q W;simp only[hs m _ W];exact e
   . rename_i cS self x0 W;simp only[hs m _ W];exact e
   . cases e
 . exact e
 . cases e
theorem GP{m k:Nat}{y:H rs}(hs:Sub x y)(e:yR x m k=true):yR y m k=true:=by
 unfold yR at e ⊢;split at e
 . rename_i Q W;simp only[hs m _ W];exact e
 . cases e
theorem IL{v:V}{lo hi mx:Option V}{y:H rs}(hs:Sub x y)(e:mQ P t x a lo hi mx=some v):mQ P t y a lo hi mx=some v:=by
 unfold mQ at e ⊢;split at e
 . cases e
 . rename_i h0;rw[aJ h0];split at e
   . exact e
   . exact e
   . exact e
   . rename_i nn el b o hu;cases X:lu P el with
     |none=>simp[X]at e
     |some s=>cases h2:eO nn nn mx with
      |none=>simp[X,h2]at e
      |some m=>cases h3:eO nn m hi with
       |none=>simp[X,h2,h3]at e
       |some hh=>cases h4:eO 0 hh lo with
        |none=>simp[X,h2,h3,h4]at e
        |some l=>
         simp only[X,h2,h3,h4]at e ⊢;split at e
         . rename_i hq;rw[aF ⟨hq.1,hq.2.1,GP hs hq.2.2⟩];exact e
         . cases e
   . cases e
theorem GQ{k v:V}{ok:Bool}{y:H rs}(hs:Sub x y)(e:wz P t x a k ok=some v):wz P t y a k ok=some v:=by
 unfold wz at e ⊢;split at e
 . split at e
   . cases a with
     |map m=>
      cases m with
      |none=>exact e
      |some m=>
       simp only[V.YI]at e ⊢;cases W:x.get m with
       |none=>simp[W]at e
       |some o=>
        have hy:=hs m o W;rw[hy];rw[W]at e;cases o with
        |dy kk C=>exact e
        |_=>simp only[hy];simp only[W]at e;exact e
     |_=>exact e
   . cases e
 . cases e
theorem OP{ts:Array TypeId}{as:ag}{v:V}{y:H rs}(hs:Sub x y)(e:Oz P ts as x=some v):Oz P ts as y=some v:=by
 unfold Oz at e ⊢;split at e
 . split at e
   . exact e
   . exact e
   . exact e
   . exact e
   . exact e
   . rename_i m hu;cases W:x.get m with
     |none=>simp[W]at e
     |some o=>
      simp only[hs m o W];simp only[W]at e;exact e
   . cases e
 . cases e
theorem KU{o:rs}{p:H rs×Nat}(e:newObj x n o=some p)(y:H rs):n<fW/\p=(x.set n (some o),n+1)/\newObj y n o=some (y.set n (some o),n+1):=by
 obtain⟨h',n'⟩:=p;obtain⟨X,rfl,rfl⟩:=lj e;exact⟨X,rfl,by simp[newObj,X]⟩
def vB(P:Program)(o:Oper)(S:H V)(x:H rs)(n:Nat)(r:nx):Prop:=
 (∃v,r= .val v x n/\∀y,Sub x y->dH P o S y n=some (.val v y n)) \/
 (∃v b,n<fW/\r= .val v (x.set n (some b)) (n+1)/\∀y,dH P o S y n=some (.val v (y.set n (some b)) (n+1)))
theorem vB.alloc{ob:rs}{v:V}{h':H rs}{n':Nat}(e:newObj x n ob=some (h',n'))(k:∀(y h2:H rs) (m:Nat),newObj y n ob=some (h2,m)->dH P o S y n=some (.val v h2 m)):vB P o S x n (.val v h' n'):=by
 obtain⟨X,rfl,rfl⟩:=lj e;exact .inr ⟨v,ob,X,rfl,fun y=>k y _ _ (KU e y).2.2⟩
theorem EP(hp:qL o.op=true)(e:dH P o S x n=some r):vB P o S x n r:=by
 obtain⟨v,X,h2⟩:=IJ hp e;exact .inl ⟨v,X,fun y _=>h2 y n⟩
theorem quiet(hq:rR o.op=false)(e:dH P o S x n=some r):vB P o S x n r:=by
 by_cases hp:qL o.op=true
 . exact EP hp e
 have e0:=e;obtain⟨dst,op,ty,pos,after,guard⟩:=o;simp only at hq hp;cases op<;>simp only[rR]at hq<;>first|(cases hq;done)|skip
 all_goals first|(exact absurd rfl hp)|skip
 all_goals simp only[dH]at e
 case alloc t=>
  split at e
  . rename_i z hz;split at e
    . rename_i h' n' ho;obtain rfl:=eE e;exact vB.alloc ho fun y h2 m q=>by simp only[dH,hz,q]
    . cases e
  . cases e
 case box t a=>
  split at e
  . rename_i v hv;split at e
    . rename_i h' n' ho;obtain rfl:=eE e;exact vB.alloc ho fun y h2 m q=>by simp only[dH,hv,q]
    . cases e
  . cases e
 case buildSlice t T parts=>
  split at e
  . rename_i ps Fw;unfold o8 at e;split at e
    . rename_i el he;split at e
      . rename_i s z hs hz;split at e
        . rename_i J;split at e
          . rename_i Q hf;split at e
            . rename_i h' n' ho;obtain rfl:=eE e;exact vB.alloc ho fun y h2 m q=>by
               simp only[dH,Fw,o8,he,hs,hz];rw[aF J];simp only[hf,q]
            . cases e
          . cases e
        . cases e
      . cases e
    . cases e
  . cases e
 case load t a=>
  split at e
  . rename_i v hv;obtain⟨u,X,rfl⟩:=gd e;exact .inl ⟨u,rfl,fun y hs=>by simp only[dH,hv,IK hs X,nu]⟩
  . cases e
 case convert s d a=>
  split at e
  . rename_i v hv;unfold qJ at e;split at e
    . rename_i X h2;obtain rfl:=eE e;exact .inl ⟨_,rfl,fun y hs=>by simp only[dH,hv,qJ,X,h2]⟩
    . rename_i X h2;obtain rfl:=eE e;exact .inl ⟨_,rfl,fun y hs=>by simp only[dH,hv,qJ,X,h2]⟩
    . rename_i X h2;split at e
      . rename_i h3;split at e
        . rename_i h' n' ho;obtain rfl:=eE e;exact vB.alloc ho fun y Vt m q=>by simp only[dH,hv,qJ,X,h2,h3,q]
        . cases e
      . cases e
    . rename_i X h2;split at e
      . rename_i h3;obtain rfl:=eE e;exact .inl ⟨_,rfl,fun y hs=>by simp only[dH,hv,qJ,X,h2,h3]⟩
      . cases e
    . rename_i X h2;split at e
      . rename_i h3;obtain rfl:=eE e;exact .inl ⟨_,rfl,fun y hs=>by simp only[dH,hv,qJ,X,h2,h3]⟩
      . cases e
    . rename_i X h2;split at e
      . rename_i h3;split at e
        . rename_i h4;have key:∀y:H rs,Sub x y->∀m,Bh (x.get m)=Bh (y.get m)\/x.get m=none:=fun y hs m=>by
           cases W:x.get m with
           |none=>exact .inr rfl
           |some o=>rw[hs m o W];exact .inl rfl
          have aeZ:∀y:H rs,Sub x y->∀m,u9 (x.get m)=u9 (y.get m)\/x.get m=none:=fun y hs m=>by
           cases W:x.get m with
           |none=>exact .inr rfl
           |some o=>rw[hs m o W];exact .inl rfl
          rename_i m0 o0 auv _ _ _;split at e
          . rename_i s0 GD;split at e
            . rename_i hl;obtain rfl:=eE e;refine .inl ⟨_,rfl,fun y hs=>?_⟩;simp only[dH,hv,qJ,X,h2,h3];rw[aF h4];rcases aeZ y hs m0 with q|q
              . rw[<- q,GD];simp only[aF hl]
              . rw[q]at GD;cases GD
            . cases e
          . rename_i akX;split at e
            . rename_i ks Cb;split at e
              . rename_i hl;obtain rfl:=eE e;refine .inl ⟨_,rfl,fun y hs=>?_⟩;simp only[dH,hv,qJ,X,h2,h3];rw[aF h4];rcases aeZ y hs m0 with q|q
                . rw[<- q,akX];rcases key y hs m0 with q|q
                  . rw[<- q,Cb];simp only[aF hl]
                  . rw[q]at Cb;cases Cb
                . rw[q]at Cb;cases Cb
              . cases e
            . rename_i Cb;split at e
              . obtain rfl:=eE e;refine .inl ⟨_,rfl,fun y hs=>?_⟩;simp only[dH,hv,qJ,X,h2,h3];rw[aF h4];cases u9 (y.get m0)with
                |some s0=>simp
                |none=>
                 cases Bh (y.get m0)with
                 |none=>rfl
                 |some ks=>simp[eW]
              . split at e
                . rename_i Q W;split at e
                  . rename_i bs J;split at e
                    . rename_i s' ht;obtain rfl:=eE e;refine .inl ⟨_,rfl,fun y hs=>?_⟩;simp only[dH,hv,qJ,X,h2,h3];rw[aF h4];simp only[hs _ _ W,u9,Bh,J,ht]
                    . cases e
                  . cases e
                . cases e
        . cases e
      . cases e
    . cases e
  . cases e
 case makeMap t Rb=>
  cases Rb with
  |some _=>simp at e
  |none=>
   simp only at e;split at e
   . rename_i h' n' ho;obtain rfl:=eE e;exact vB.alloc ho fun y h2 m q=>by simp only[dH,q]
   . cases e
 case makeSlice t l c=>
  split at e
  . rename_i lv cv X h2;unfold ox at e;split at e
    . rename_i el k l0 k' c0 he;split at e
      . rename_i i z h3 h4;simp only at e;split at e
        . rename_i J;split at e
          . rename_i h' n' ho;obtain rfl:=eE e;exact vB.alloc ho fun y Vt m q=>by
             simp only[dH,X,h2,ox,he,h3,h4];rw[aF J];simp only[q]
          . cases e
        . cases e
      . cases e
    . cases e
  . cases e
 case slice t a lo hi mx=>
  split at e
  . rename_i v lov hiv mxv X h2 h3 h4;obtain⟨u,h5,rfl⟩:=gd e;exact .inl ⟨u,rfl,fun y hs=>by simp only[dH,X,h2,h3,h4,IL hs h5,nu]⟩
  . cases e
 case lookup t a k ok=>
  split at e
  . rename_i v kv X h2;obtain⟨u,h5,rfl⟩:=gd e;exact .inl ⟨u,rfl,fun y hs=>by simp only[dH,X,h2,GQ hs h5,nu]⟩
  . cases e
 case range t a=>
  split at e
  . rename_i v hv;unfold CD at e;split at e
    . rename_i s hu;split at e
      . rename_i h' n' ho;obtain rfl:=eE e;exact vB.alloc ho fun y Vt m q=>by simp only[dH,hv,CD,hu,q]
      . cases e
    . cases e
  . cases e
 case call c=>
  obtain⟨cal,args,ats⟩:=c;cases cal with
  |value f=>simp at hq
  |invoke f m=>simp at hq
  |builtin b=>
   simp only[xp]at e;split at e
   . rename_i as ha;cases b<;>simp only[]at hq<;>first|(cases hq;done)|skip
     . simp only[lU]at e;obtain⟨u,h5,rfl⟩:=gd e;exact .inl ⟨u,rfl,fun y hs=>by simp only[dH,xp,ha,lU,OP hs h5,nu]⟩
     . simp only[lU]at e;split at e
       . obtain⟨u,h5,rfl⟩:=gd e;exact .inl ⟨u,rfl,fun y hs=>by simp only[dH,xp,ha,lU,h5,nu]⟩
       . cases e
     . simp only[lU]at e;split at e
       . obtain⟨u,h5,rfl⟩:=gd e;exact .inl ⟨u,rfl,fun y hs=>by simp only[dH,xp,ha,lU,h5,nu]⟩
       . cases e
   . cases e
 all_goals (cases e)
end
end
theorem C0(l:List Oper)(o:Oper):qa (l++[o])=qa l++[eT (qa l) o.after.toList]:=by simp[qa]
theorem xy:∀(l:List Oper) (gz:List Nat),(l.foldl (fun gz o=>gz++[eT gz o.after.toList]) gz).length=gz.length+l.length
 | [],gz=>by simp
 |o::l,gz=>by simp only[List.foldl_cons];rw[xy l];simp;omega
theorem GR(l:List Oper):(qa l).length=l.length:=by unfold qa;rw[xy];simp
def mG(ops:Array Oper)(j:Nat):Nat:=match ops[j]? with
 |some o=>eT (qa (ops.toList.take j)) o.after.toList
 |none=>0
theorem qz{α:Type}{l:List α}{i:Nat}{o:α}(h:l[i]? =some o):l.take (i+1)=l.take i++[o]:=by
 rw[bH,h];rfl
theorem nN(ops:Array Oper):∀i,i<=ops.size->∀k,k<i->(qa (ops.toList.take i)).getD k 0=mG ops k
 |0,_,k,hk=>by omega
 |i+1,hi,k,hk=>by
  have ho:ops.toList[i]? =some ops[i]:=by rw[bN];exact bq L
  rw[qz ho,C0];have hl:(qa (ops.toList.take i)).length=i:=by rw[GR];simp;omega
  by_cases q:k<i
  . rw[aO,bB L,<- aO];exact nN ops i L k q
  . have:k=i:=by omega
    subst this;rw[aO,cq L,hl];simp only[Nat.sub_self,bK,Option.getD_some];unfold mG;rw[<- bN,ho]
theorem Az(a b i:Nat):eu (a|||b) i=(eu a i||eu b i):=Nat.testBit_or a b i
theorem C2(k i:Nat):eu (2^k) i=decide (k=i):=Nat.testBit_two_pow
theorem kM(i:Nat):eu 0 i=false:=Nat.zero_testBit i
theorem x6(eC:List Nat)(k:Nat):∀C:List Edge,eu (eT eC C) k=true↔∃e∈C,Region.binds .any e=true/\(e.on=k\/eu (eC.getD e.on 0) k=true)
 | []=>by simp[eT,kM]
 |e::C=>by
  simp only[eT];by_cases hb:Region.binds .any e=true
  . rw[aF hb,Az,Az,C2,bV,bV,x6 eC k C];simp only[bD,aD];constructor
    . rintro(⟨x,X,h2,h3⟩|h|h)
      . exact⟨x,.inr X,h2,h3⟩
      . exact⟨e,.inl rfl,hb,.inl h⟩
      . exact⟨e,.inl rfl,hb,.inr h⟩
    . rintro⟨x,rfl|X,h2,h3⟩
      . exact .inr h3
      . exact .inl ⟨x,X,h2,h3⟩
  . rw[aJ hb,x6 eC k C];simp only[aD];constructor
    . rintro⟨x,X,h2,h3⟩;exact⟨x,.inr X,h2,h3⟩
    . rintro⟨x,rfl|X,h2,h3⟩
      . exact absurd h2 hb
      . exact⟨x,X,h2,h3⟩
def wN(ops:Array Oper):Prop:=∀(j:Nat) (o:Oper),ops[j]? =some o->∀e∈o.after,Region.binds .any e=true->e.on<j
section
variable{ops:Array Oper}
theorem zm(he:wN ops){j k:Nat}{o:Oper}(ho:ops[j]? =some o):
  eu (mG ops j) k=true↔∃e∈o.after,Region.binds .any e=true/\(e.on=k\/eu (mG ops e.on) k=true):=by
 have hj:j<ops.size:=(aS.1 ho).1;unfold mG;simp only[ho];rw[x6];constructor
 . rintro⟨e,X,h2,h3⟩;have mO:e∈o.after:=by simpa using X
   have fH:=he j o ho e mO h2;refine⟨e,mO,h2,h3.imp id fun q=>?_⟩;rw[nN ops j L e.on fH]at q;exact q
 . rintro⟨e,X,h2,h3⟩;have fH:=he j o ho e X h2;refine⟨e,by simpa using X,h2,h3.imp id fun q=>?_⟩;rw[nN ops j L e.on fH];exact q
theorem KV(he:wN ops):∀j k,eu (mG ops j) k=true->k<j:=by
 intro j
 induction j using Nat.strongRecOn with
 |_ j ih=>
  intro k h;cases ho:ops[j]? with
  |none=>simp[mG,ho,kM]at h
  |some o=>
   obtain⟨e,X,h2,h3⟩:=(zm he ho).1 h;have fH:=he j o ho e X h2;rcases h3 with rfl|h3
   . exact fH
   . exact Nat.lt_trans (ih e.on fH k h3) fH
theorem Fy(he:wN ops):∀j i k,eu (mG ops j) i=true->eu (mG ops i) k=true->eu (mG ops j) k=true:=by
 intro j
 induction j using Nat.strongRecOn with
 |_ j ih=>
  intro i k h h';cases ho:ops[j]? with
  |none=>simp[mG,ho,kM]at h
  |some o=>
   obtain⟨e,X,h2,h3⟩:=(zm he ho).1 h;have fH:=he j o ho e X h2;refine(zm he ho).2 ⟨e,X,h2,.inr ?_⟩;rcases h3 with rfl|h3
   . exact h'
   . exact ih e.on fH i k h3 h'
theorem C3(he:wN ops){fr:Nat->Prop}(hS:∀j o,fr j->ops[j]? =some o->∀e∈o.after,Region.binds .any e=true->fr e.on):
  ∀j k,fr j->eu (mG ops j) k=true->fr k:=by
 intro j
 induction j using Nat.strongRecOn with
 |_ j ih=>
  intro k hj h;cases ho:ops[j]? with
  |none=>simp[mG,ho,kM]at h
  |some o=>
   obtain⟨e,X,h2,h3⟩:=(zm he ho).1 h;have hs:=hS j o hj ho e X h2;rcases h3 with rfl|h3
   . exact hs
   . exact ih e.on (he j o ho e X h2) k hs h3
end
structure nk(ops:Array Oper)(rt:Nat):Prop where
 zn:wN ops
 dst:∀(j:Nat) (o:Oper),ops[j]? =some o->nM rt o.dst
 one:∀(i j:Nat) (o q:Oper) (t:Nat),ops[i]? =some o->ops[j]? =some q->o.dst=some t->q.dst=some t->i=j
 use:∀(i j:Nat) (o q:Oper) (t:Nat),ops[i]? =some o->ops[j]? =some q->i≠j->o.dst=some t->t∈vl ops q->if i<j then eu (mG ops j) i=true else eu (mG ops i) j=true
theorem KW{ops:Array Oper}{rt:Nat}(h:QI ops rt=true):nk ops rt:=by
 unfold QI at h;rw[bt]at h;have at_:∀j o,ops[j]? =some o->(o.after.toList.all (fun e=>!Region.binds .any e||decide (e.on<j))=true/\(match o.dst with|some d=>decide (d<rt)|none=>true)=true/\
   ∀i,i<ops.size->i≠j->Gx ops (qa ops.toList) i j=true):=by
  intro j o ho;have hj:j<ops.size:=(aS.1 ho).1;have:=h j (List.mem_range.2 hj);simp only[ho,aE,bt,List.mem_range]at this;obtain⟨⟨X,h2⟩,h3⟩:=this;refine⟨by rw[bt];exact X,h2,fun i hi fS=>?_⟩;have:=h3 i hi;simp only[bV]at this;rcases this with q|q
  . exact absurd (aG q) fS
  . exact q
 have W:∀j,j<ops.size->(qa ops.toList).getD j 0=mG ops j:=fun j hj=>by
  have:=nN ops ops.size (aC _) j hj;rwa [show ops.toList.take ops.size=ops.toList from by rw[bk];simp]at this
 refine⟨?_,?_,?_,?_⟩
 . intro j o ho e he hb;obtain⟨X,_,_⟩:=at_ j o ho;rw[bt]at X;have:=X e (by simpa using he);simp only[hb,Bool.not_true,Bool.false_or,bD]at this;exact this
 . intro j o ho d hd;obtain⟨_,h2,_⟩:=at_ j o ho;rw[hd]at h2;simpa using h2
 . intro i j o q t hi hj ho hq;by_cases e:i=j
   . exact e
   . obtain⟨_,_,h3⟩:=at_ j q hj;have:=h3 i (aS.1 hi).1 e;simp only[Gx,hi,hj,ho,hq,aE,Bool.not_eq_true']at this;have X:=this.1;rw[cP]at X;cases X
 . intro i j o q t hi hj fS ho ht;obtain⟨_,_,h3⟩:=at_ j q hj;have M4:=(aS.1 hi).1;have Kq:=(aS.1 hj).1;have:=h3 i M4 fS;have J:(vl ops q).contains t=true:=by simpa using ht
   simp only[Gx,hi,hj,ho,aE,J,if_true,W i M4,W j Kq]at this;have h2:=this.2;split
   . rename_i q;rw[aF q]at h2;exact h2
   . rename_i q;rw[aJ q]at h2;exact h2
abbrev x7:=Nat×Nat×H rs×Nat
def eF(h0:H rs)(c0:Nat)(dF:List x7):Nat->Nat×H rs×Nat
 |0=>(0,h0,c0)
 |c+1=>match dF[c]? with
  |some e=>e.2
  |none=>(0,h0,c0)
section
variable{h0:H rs}{c0:Nat}{dF:List x7}{e:x7}
theorem qU{c:Nat}(h:c<=dF.length):eF h0 c0 (dF++[e]) c=eF h0 c0 dF c:=by
 cases c with
 |zero=>rfl
 |succ c=>simp only[eF];rw[bB L]
theorem x8:eF h0 c0 (dF++[e]) (dF.length+1)=e.2:=by
 simp[eF]
end
def tX(h0:H rs)(c0:Nat)(dF:List x7):Nat->List (Nat×Nat×H rs)
 |0=>[]
 |c+1=>match dF[c]? with
  |some e=>(e.1,(eF h0 c0 dF c).1,(eF h0 c0 dF c).2.1)::tX h0 c0 dF c
  |none=>tX h0 c0 dF c
theorem Bp{h0:H rs}{c0:Nat}{dF:List x7}{e:x7}:∀c,c<=dF.length->tX h0 c0 (dF++[e]) c=tX h0 c0 dF c
 |0,_=>rfl
 |c+1,h=>by
  simp only[tX];rw[bB L,qU L,Bp c L]
structure AA(ops:Array Oper)(kH:H V)(val:Nat->V)(j:Nat)(S:H V):Prop where
 new:∀(i:Nat) (o:Oper) (t:Nat),i<j->ops[i]? =some o->o.dst=some t->S.get t=some (val i)
 old:∀(t:Nat),(∀(i:Nat) (o:Oper),i<j->ops[i]? =some o->o.dst≠some t)->S.get t=kH.get t
section
variable(P:Program)(cf:ga)(ops:Array Oper)(I:Nat)(h0:H rs)(kH:H V)
def vC(val:Nat->V)(c9:af)(reads:List (Nat×Nat×Oper×H V×V))(dF:List x7)(j:Nat)(o:Oper):Prop:=
 ∃S,AA ops kH val j S/\
  ((iL ops o S=some false/\val j= .ew []) \/
   (iL ops o S=some true/\rR o.op=false/\(∃b,(j,b)∈c9/\I+j<fW/\∀y,dH P o S y (I+j)=some (.val (val j) (y.set (I+j) (some b)) (I+j+1)))) \/
   (iL ops o S=some true/\rR o.op=false/\(∀y,dH P o S y (I+j)=some (.val (val j) y (I+j)))) \/
   (iL ops o S=some true/\rR o.op=false/\(j,mG ops j,o,S,val j)∈reads/\
    ∀c,c<=dF.length->(∀(c':Nat) (e:x7),c<=c'->dF[c']? =some e->eu (mG ops j) e.1=false)->(∀(c':Nat) (e:x7),c'<c->dF[c']? =some e->eu e.2.1 j=false)->
     ∃y,dH P o S (gV I c9 (eF h0 (I+ops.size) dF c).1 (eF h0 (I+ops.size) dF c).2.1 (mG ops j)) (I+j)=some (.val (val j) y (I+j))) \/
   (iL ops o S=some true/\rR o.op=true/\∃c h n,dF[c]? =some (j,mG ops j,h,n)/\
    (let x:=eF h0 (I+ops.size) dF c
     (dH P o S (gV I c9 x.1 x.2.1 (mG ops j)) x.2.2=some (.val (val j) h n)) \/
     ∃f args,dH P o S (gV I c9 x.1 x.2.1 (mG ops j)) x.2.2=some (.call f args)/\cf f args (gV I c9 x.1 x.2.1 (mG ops j)) x.2.2=some (.ret (val j),h,n))))
def sO(val:Nat->V)(j:Nat)(o:Oper)(b:rs):Prop:=
 ∃S,AA ops kH val j S/\iL ops o S=some true/\rR o.op=false/\I+j<fW/\b.wr=true/\∀y,dH P o S y (I+j)=some (.val (val j) (y.set (I+j) (some b)) (I+j+1))
structure pn(val:Nat->V)(dF:List x7)(i:Nat)(d:Dr):Prop where
 eC:d.eC=qa (ops.toList.take i)
 S:AA ops kH val i d.S
 cur:d.cur=((eF h0 (I+ops.size) dF dF.length).1,(eF h0 (I+ops.size) dF dF.length).2.1)
 n:d.n=(eF h0 (I+ops.size) dF dF.length).2.2
 qh:d.qh=tX h0 (I+ops.size) dF dF.length
 last:d.last=(dF.getLast?).map (·.1)
 vD:∀(c:Nat) (e:x7),dF[c]? =some e->e.1<i/\∃o:Oper,ops[e.1]? =some o/\rR o.op=true/\e.2.1=mG ops e.1
 c9:∀x∈d.c9,x.1<i
 one:∀(j:Nat) (b b':rs),(j,b)∈d.c9->(j,b')∈d.c9->b=b'
 AB:∀(c:Nat) (e:x7) (o:Oper),dF[c]? =some e->ops[e.1]? =some o->∃S,AA ops kH val e.1 S/\iL ops o S=some true
 Cc:∀(j:Nat) (o:Oper) (b:rs),(j,b)∈d.c9->ops[j]? =some o->sO P ops I kH val j o b
 chain:∀(c c':Nat) (e e':x7),c'<c->dF[c]? =some e->dF[c']? =some e'->eu (mG ops e.1) e'.1=true
 aai:∀(j:Nat) (o:Oper),j<i->ops[j]? =some o->vC P cf ops I h0 kH val d.c9 d.reads dF j o
end
mutual
theorem VB:∀(a b:lf),lf.beq a b=true->a=b
 | .bool a,b,h=>by cases b<;>simp[lf.beq]at h;rw[h]
 | .int k a,b,h=>by cases b<;>simp[lf.beq]at h;rw[h.1,h.2]
 | .str a,b,h=>by
   cases b<;>simp only[lf.beq]at h<;>first|(cases h;done)|skip
   rw[gr]at h;rw[eq_of_beq h]
 | .dV n a,b,h=>by
   cases b<;>simp only[lf.beq]at h<;>first|(cases h;done)|skip
   simp only[aE]at h;rw[aG h.1,vE _ _ h.2]
 | .agg a,b,h=>by
   cases b<;>simp only[lf.beq]at h<;>first|(cases h;done)|skip
   rw[vE _ _ h]
theorem vE:∀(a b:ai),lf.qg a b=true->a=b
 | [],b,h=>by cases b<;>simp[lf.qg]at h;rfl
 |x::xs,b,h=>by
  cases b with
  |nil=>simp[lf.qg]at h
  |cons y ys=>
   simp only[lf.qg,aE]at h;rw[VB x y h.1,vE xs ys h.2]
end
mutual
theorem OQ:∀(a:lf),lf.beq a a=true
 | .bool a=>by simp[lf.beq]
 | .int k a=>by simp[lf.beq]
 | .str a=>by simp only[lf.beq];rw[gr];simp
 | .dV n a=>by simp only[lf.beq,cP,qV a,Bool.and_self]
 | .agg a=>by simp only[lf.beq,qV a]
theorem qV:∀(a:ai),lf.qg a a=true
 | []=>rfl
 |x::xs=>by simp only[lf.qg,OQ x,qV xs,Bool.and_self]
end
mutual
theorem KX:∀(a b:V),V.beq a b=true->a=b
 | .bool a,b,h=>by cases b<;>simp[V.beq]at h;rw[h]
 | .int k a,b,h=>by cases b<;>simp[V.beq]at h;rw[h.1,h.2]
 | .str a,b,h=>by
   cases b<;>simp only[V.beq]at h<;>first|(cases h;done)|skip
   rw[gr]at h;rw[eq_of_beq h]
 | .ptr a,b,h=>by
   cases b<;>simp only[V.beq]at h<;>first|(cases h;done)|skip
   rw[C4 _ _ h]
 | .dx a l c e,b,h=>by
   cases b<;>simp only[V.beq]at h<;>first|(cases h;done)|skip
   simp only[aE]at h;obtain⟨⟨⟨X,h2⟩,h3⟩,h4⟩:=h;rw[C4 _ _ X,aG h2,aG h3,aG h4]
 | .map a,b,h=>by
   cases b<;>simp only[V.beq]at h<;>first|(cases h;done)|skip
   rename_i c;cases a<;>cases c<;>simp only[Gv]at h<;>first|(cases h;done)|skip
   . rfl
   . rw[aG h]
 | .fn f a c,b,h=>by
   cases b<;>simp only[V.beq]at h<;>first|(cases h;done)|skip
   rename_i g b d;simp only[aE]at h;obtain⟨⟨X,h2⟩,h3⟩:=h;rw[zo a b h2,zo c d h3];cases f<;>cases g<;>simp only[QH]at X<;>first|(cases X;done)|skip
   all_goals rw[aG X]
 | .kT,b,h=>by cases b<;>simp only[V.beq]at h<;>first|(cases h;done)|rfl
 | .iface t x,b,h=>by
   cases b<;>simp only[V.beq]at h<;>first|(cases h;done)|skip
   rename_i u y;simp only[aE]at h;rw[aG h.1,KX x y h.2]
 | .nilIface,b,h=>by cases b<;>simp only[V.beq]at h<;>first|(cases h;done)|rfl
 | .agg a,b,h=>by
   cases b<;>simp only[V.beq]at h<;>first|(cases h;done)|skip
   rw[zo _ _ h]
 | .ew a,b,h=>by
   cases b<;>simp only[V.beq]at h<;>first|(cases h;done)|skip
   rw[zo _ _ h]
 | .dV f n a,b,h=>by
   cases b<;>simp only[V.beq]at h<;>first|(cases h;done)|skip
   simp only[aE,beq_iff_eq]at h;rw[h.1,aG h.2.1,vE _ _ h.2.2]
 | .eK a,b,h=>by
   cases b<;>simp only[V.beq]at h<;>first|(cases h;done)|skip
   rw[vE _ _ h]
theorem zo:∀(a b:ag),V.qg a b=true->a=b
 | [],b,h=>by cases b<;>simp only[V.qg]at h<;>first|(cases h;done)|rfl
 |x::xs,b,h=>by
  cases b<;>simp only[V.qg]at h<;>first|(cases h;done)|skip
  simp only[aE]at h;rw[KX x _ h.1,zo xs _ h.2]
theorem C4:∀(a b:Option (Nat×Nat)),rQ a b=true->a=b
 |none,b,h=>by cases b<;>simp only[rQ]at h<;>first|(cases h;done)|rfl
 |some (x,y),b,h=>by
  cases b<;>simp only[rQ]at h<;>first|(cases h;done)|skip
  simp only[aE]at h;rw[aG h.1,aG h.2]
end
theorem zq{P:Program}{I i:Nat}{o:Oper}{S:H V}{v:V}{x:H rs}(h:ng P I i o S v x=true):∃y,dH P o S x (I+i)=some (.val v y (I+i)):=by
 unfold ng at h;split at h
 . rename_i u y k e;simp only[aE]at h;have X:=aG h.1;have h2:=KX _ _ h.2;subst X;subst h2;exact⟨y,e⟩
 . cases h
theorem OR{I i:Nat}{b:rs}{l:af}{m:Nat}{x:H rs}{iy:Nat}(h:eu iy i=false):gV I ((i,b)::l) m x iy=gV I l m x iy:=by
 simp[gV,h]
theorem Fz{P:Program}{I i:Nat}{o:Oper}{S:H V}{v:V}{c9:af}{iy:Nat}{h0:H rs}{c0:Nat}{dF:List x7}:
  ∀k,k<=dF.length->qM P I i o S v c9 iy (tX h0 c0 dF k)=true->∀c,c<k->(∀(c':Nat) (e:x7),c<=c'->c'<k->dF[c']? =some e->eu iy e.1=false)->
   ∃y,dH P o S (gV I c9 (eF h0 c0 dF c).1 (eF h0 c0 dF c).2.1 iy) (I+i)=some (.val v y (I+i))
 |0,_,_,c,J,_=>by omega
 |k+1,hk,h,c,J,hn=>by
  have he:dF[k]? =some dF[k]:=az L;simp only[tX,he,qM]at h;have hb:=hn k dF[k] L L he;rw[hb]at h;simp only[aP,cJ,aE]at h;by_cases q:c=k
  . subst q;exact zq h.1
  . exact Fz k L h.2 c L fun c' e X h2 h3=>hn c' e X L h3
theorem C5{P:Program}{I:Nat}{c9:af}{m:Nat}{x:H rs}:∀(l:List (Nat×Nat×Oper×H V×V)),qi P I c9 m x l=true->
  ∀j iy o S v,(j,iy,o,S,v)∈l->eu m j=false->∃y,dH P o S (gV I c9 m x iy) (I+j)=some (.val v y (I+j))
 | [],_,j,iy,o,S,v,W,_=>by simp at W
 |(j',auy,o',fr',v')::l,h,j,iy,o,S,v,W,hb=>by
  simp only[qi,aE,bV]at h;rcases aD.1 W with q|q
  . cases q;rcases h.1 with X|X
    . rw[hb]at X;cases X
    . exact zq X
  . exact C5 l h.2 j iy o S v q hb
section
variable{P:Program}{cf:ga}{ops:Array Oper}{I rt:Nat}{h0:H rs}{kH:H V}
section
variable{val jb:Nat->V}{j i:Nat}{S:H V}
theorem AA.mono(h:AA ops kH val j S)(hv:∀k,k<j->jb k=val k):AA ops kH jb j S:=
 ⟨fun i o t hi ho hd=>by rw[hv i hi];exact h.new i o t hi ho hd,h.old⟩
theorem AA.step{fr':H V}{o:Oper}{v:V}(hr:nk ops rt)(ho:ops[i]? =some o)(h:AA ops kH val i S)(hv:∀k,k<i->jb k=val k)(hi:jb i=v)
  (e:jj S o.dst v=some fr'):AA ops kH jb (i+1) fr':=by
 have h':=h.mono hv;cases hd:o.dst with
 |none=>
  rw[hd]at e;simp only[jj,an]at e;subst e;refine⟨fun k q t hk hq ht=>?_,fun t ht=>h'.old t fun k q hk hq=>ht k q L hq⟩;by_cases c:k=i
  . subst c;rw[ho]at hq;cases hq;rw[hd]at ht;cases ht
  . exact h'.new k q t L hq ht
 |some d=>
  rw[hd]at e;simp only[jj]at e;split at e
  . rename_i gT;obtain rfl:=eE e;refine⟨fun k q t hk hq ht=>?_,fun t ht=>?_⟩
    . by_cases c:k=i
      . subst c;rw[ho]at hq;cases hq;rw[hd]at ht;cases ht;rw[H.nE _ _ gT,hi]
      . have fS:t≠d:=by
         intro q';subst q';exact c (hr.one k i q o t hq ho ht hd)
        rw[H.qN _ _ gT fS];exact h'.new k q t L hq ht
    . have fS:t≠d:=by intro q;subst q;exact ht i o L ho hd
      rw[H.qN _ _ gT fS];exact h'.old t fun k q hk hq=>ht k q L hq
  . cases e
theorem aaj{he:wN ops}{j i:Nat}(h:j<=i):eu (mG ops j) i=false:=by
 cases q:eu (mG ops j) i with
 |false=>rfl
 |true=>have:=KV he j i q;omega
end
theorem sO.mono{val jb:Nat->V}{j:Nat}{o:Oper}{b:rs}(h:sO P ops I kH val j o b)(hv:∀k,k<=j->jb k=val k):sO P ops I kH jb j o b:=by
 obtain⟨S,f1,f2,f3,f4,f6,f5⟩:=h;exact⟨S,f1.mono fun k hk=>hv k L,f2,f3,f4,f6,fun y=>by rw[hv j (aC _)];exact f5 y⟩
section
variable{val jb:Nat->V}{c9:af}{reads:List (Nat×Nat×Oper×H V×V)}{dF:List x7}
theorem vC.quiet{lI:af}{reads ya:List (Nat×Nat×Oper×H V×V)}{dF:List x7}{j:Nat}{o:Oper}
  (h:vC P cf ops I h0 kH val c9 reads dF j o) (hv:∀k,k<=j->jb k=val k) (ha:∀x∈c9,x∈lI) (hr:∀x∈reads,x∈ya)
  (M5:∀m x,gV I lI m x (mG ops j)=gV I c9 m x (mG ops j)):vC P cf ops I h0 kH jb lI ya dF j o:=by
 obtain⟨S,f1,f2⟩:=h;refine⟨S,f1.mono fun k hk=>hv k L,?_⟩;have hj:=hv j (aC _);rw[hj];rcases f2 with q|⟨q1,q2,b,q3,q4,q5⟩|q|⟨q1,q2,q3,q4⟩|⟨q1,q2,c,h,n,q3,q4⟩
 . exact .inl q
 . exact .inr (.inl ⟨q1,q2,b,ha _ q3,q4,q5⟩)
 . exact .inr (.inr (.inl q))
 . refine .inr (.inr (.inr (.inl ⟨q1,q2,hr _ q3,fun c J X h2=>?_⟩)));rw[M5];exact q4 c J X h2
 . refine .inr (.inr (.inr (.inr ⟨q1,q2,c,h,n,q3,?_⟩)));simp only[M5];exact q4
theorem vC.effect{e:x7}{j:Nat}{o:Oper}
  (h:vC P cf ops I h0 kH val c9 reads dF j o) (hv:∀k,k<=j->jb k=val k) (iC:qi P I c9 e.2.1 e.2.2.1 reads=true):
  vC P cf ops I h0 kH jb c9 reads (dF++[e]) j o:=by
 obtain⟨S,f1,f2⟩:=h;refine⟨S,f1.mono fun k hk=>hv k L,?_⟩;have hj:=hv j (aC _);rw[hj];rcases f2 with q|q|q|⟨q1,q2,q3,q4⟩|⟨q1,q2,c,h,n,q3,q4⟩
 . exact .inl q
 . exact .inr (.inl q)
 . exact .inr (.inr (.inl q))
 . refine .inr (.inr (.inr (.inl ⟨q1,q2,q3,fun c J X h2=>?_⟩)));simp only[ay,aT,bP]at J;by_cases cl:c<=dF.length
   . rw[qU cl];refine q4 c cl (fun c' e' wO BU=>X c' e' wO ?_) (fun c' e' wO BU=>h2 c' e' wO ?_)
     . rw[bB (aH.1 BU).1];exact BU
     . rw[bB (aH.1 BU).1];exact BU
   . have qR:c=dF.length+1:=by omega
     subst qR;rw[x8];exact C5 reads iC j _ o S _ q3 (h2 dF.length e L (by simp))
 . have J:=(aH.1 q3).1;refine .inr (.inr (.inr (.inr ⟨q1,q2,c,h,n,by rw[bB J];exact q3,?_⟩)));rw[qU L];exact q4
end
section
variable{val:Nat->V}{dF:List x7}{i:Nat}
theorem OS{d:Dr}(hr:nk ops rt)(f:pn P cf ops I h0 kH val dF i d)(hl:Ao (mG ops i) d.last=true):
  ∀(c:Nat) (e:x7),dF[c]? =some e->eu (mG ops i) e.1=true:=by
 intro c e he;have J:=(aH.1 he).1;rw[f.last]at hl;have hg:dF.getLast? =some (dF[dF.length-1]'(by omega)):=by
  rw[List.getLast?_eq_getElem?,az]
 rw[hg]at hl;simp only[bj,Ao]at hl;by_cases q:c=dF.length-1
 . subst q;rw[az L]at he;cases he;exact hl
 . exact Fy hr.zn i _ _ hl (f.chain (dF.length-1) c _ e L (az L) he)
theorem FA{d d':Dr}{o:Oper}{v:V}{h:H rs}{n:Nat}(hr:nk ops rt)(ho:ops[i]? =some o)(f:pn P cf ops I h0 kH val dF i d)
  (hw:iL ops o d.S=some true) (C6:rR o.op=true) (hl:Ao (mG ops i) d.last=true) (ha:kU P I i (mG ops i) o d v h n=some d')
  (W:qa (ops.toList.take (i+1))=d.eC++[mG ops i])
  (run:(dH P o d.S (gV I d.c9 d.cur.1 d.cur.2 (mG ops i)) d.n=some (.val v h n)) \/
   ∃g args,dH P o d.S (gV I d.c9 d.cur.1 d.cur.2 (mG ops i)) d.n=some (.call g args)/\cf g args (gV I d.c9 d.cur.1 d.cur.2 (mG ops i)) d.n=some (.ret v,h,n)):
  ∃jb vF,pn P cf ops I h0 kH jb vF (i+1) d':=by
 unfold kU at ha;split at ha
 . rename_i S hp;split at ha
   . rename_i iC;obtain rfl:=eE ha
     let jb:Nat->V:=fun k=>if k=i then v else val k
     have IM:jb i=v:=by simp[jb]
     have hv:∀k,k<i->jb k=val k:=fun k hk=>by simp[jb,show k≠i by omega]
     refine⟨jb,dF++[(i,mG ops i,h,n)],?_⟩;have ja:(dF++[(i,mG ops i,h,n)]).length=dF.length+1:=by simp
     refine⟨W.symm,f.S.step hr ho hv IM hp,?_,?_,?_,by simp,?_,fun x M=>by have:=f.c9 x M;omega,f.one,fun c e q he hq=>?_,fun j q b hb hq=>(f.Cc j q b hb hq).mono fun k hk=>hv k (by have:=f.c9 _ hb;simp at this;omega),?_,?_⟩
     . rw[ja,x8]
     . rw[ja,x8]
     . rw[ja];simp only[tX];rw[cq L];simp only[Nat.sub_self,bK];rw[qU (aC _),Bp _ (aC _),<- f.qh,f.cur]
     . intro c e he;by_cases q:c<dF.length
       . rw[bB q]at he;obtain⟨X,h2⟩:=f.vD c e he;exact⟨L,h2⟩
       . have J:=(aH.1 he).1;simp at J;have:c=dF.length:=by omega
         subst this;simp at he;subst he;exact⟨by simp,o,ho,C6,rfl⟩
     . by_cases q2:c<dF.length
       . rw[bB q2]at he;obtain⟨X,_⟩:=f.vD c e he;obtain⟨yb,g1,g2⟩:=f.AB c e q he hq;exact⟨yb,g1.mono fun k hk=>hv k L,g2⟩
       . have J:=(aH.1 he).1;simp at J;have:c=dF.length:=by omega
         subst this;simp at he;subst he;simp only at hq;rw[ho]at hq;cases hq;exact⟨d.S,f.S.mono hv,hw⟩
     . intro c c' e e' YQ he BU;have J:=(aH.1 he).1;simp at J;have wO:c'<dF.length:=by omega
       rw[bB wO]at BU;by_cases q:c<dF.length
       . rw[bB q]at he;exact f.chain c c' e e' YQ he BU
       . have:c=dF.length:=by omega
         subst this;simp at he;subst he;exact OS hr f hl c' e' BU
     . intro j q hj hq;by_cases c:j=i
       . subst c;rw[ho]at hq;cases hq;refine⟨d.S,f.S.mono hv,.inr (.inr (.inr (.inr ⟨hw,C6,dF.length,h,n,by simp,?_⟩)))⟩;rw[qU (aC _),IM];have ae0:=f.cur;have hn:=f.n;have e1:d.cur.1=(eF h0 (I+ops.size) dF dF.length).1:=by rw[ae0]
         have e2:d.cur.2=(eF h0 (I+ops.size) dF dF.length).2.1:=by rw[ae0]
         rw[e1,e2,hn]at run;exact run
       . exact(f.aai j q L hq).effect (fun k hk=>hv k L) iC
   . cases ha
 . cases ha
theorem KY{d d':Dr}{o:Oper}(hr:nk ops rt)(ho:ops[i]? =some o)(f:pn P cf ops I h0 kH val dF i d)
  (e:vk P cf ops I i o d=some (.inl d')):∃jb vF,pn P cf ops I h0 kH jb vF (i+1) d':=by
 have hi:i<ops.size:=(aS.1 ho).1;have BV:eT d.eC o.after.toList=mG ops i:=by rw[f.eC];unfold mG;rw[ho]
 have W:qa (ops.toList.take (i+1))=d.eC++[mG ops i]:=by
  rw[qz (by rw[bN];exact ho),C0,<- f.eC,BV]
 unfold vk at e;simp only[BV]at e;have wP:∀(v:V) (S:H V) (lI:af) (ya:List (Nat×Nat×Oper×H V×V)),jj d.S o.dst v=some S->(∀x∈d.c9,x∈lI)->(∀x∈d.reads,x∈ya)->
   (∀j m x,j<=i->gV I lI m x (mG ops j)=gV I d.c9 m x (mG ops j))->(∀x∈lI,x.1<i+1)->(∀j b b',(j,b)∈lI->(j,b')∈lI->b=b')->
   (∀jb,(∀k,k<i->jb k=val k)->jb i=v->∀b,(i,b)∈lI->sO P ops I kH jb i o b)->(∀x∈lI,x.1≠i->x∈d.c9)->
   (∀jb,(∀k,k<i->jb k=val k)->jb i=v->vC P cf ops I h0 kH jb lI ya dF i o)->
   ∃jb vF,pn P cf ops I h0 kH jb vF (i+1) { d with S:=S,eC:=d.eC++[mG ops i],c9:=lI,reads:=ya }:=by
  intro v S lI ya hp ha hrd M5 hai KH hal akY pU
  let jb:Nat->V:=fun k=>if k=i then v else val k
  have IM:jb i=v:=by simp[jb]
  have hv:∀k,k<i->jb k=val k:=fun k hk=>by simp[jb,show k≠i by omega]
  refine⟨jb,dF,⟨W.symm,f.S.step hr ho hv IM hp,f.cur,f.n,f.qh,f.last,fun c e he=>?_,hai,KH,fun c e q he hq=>?_,fun j q b hb hq=>?_,f.chain,fun j q hj hq=>?_⟩⟩
  . obtain⟨X,h2⟩:=f.vD c e he;exact⟨L,h2⟩
  . obtain⟨X,_⟩:=f.vD c e he;obtain⟨yb,g1,g2⟩:=f.AB c e q he hq;exact⟨yb,g1.mono fun k hk=>hv k L,g2⟩
  . by_cases c:j=i
    . subst c;rw[ho]at hq;cases hq;exact hal jb hv IM b hb
    . have GS:=akY _ hb c;exact(f.Cc j q b GS hq).mono fun k hk=>hv k (by have:=f.c9 _ GS;simp at this;omega)
  . by_cases c:j=i
    . subst c;rw[ho]at hq;cases hq;exact pU jb hv IM
    . exact(f.aai j q L hq).quiet (fun k hk=>hv k L) ha hrd fun m x=>M5 j m x L
 have e1:d.cur.1=(eF h0 (I+ops.size) dF dF.length).1:=by rw[f.cur]
 have e2:d.cur.2=(eF h0 (I+ops.size) dF dF.length).2.1:=by rw[f.cur]
 split at e
 . rename_i hw;split at e
   . rename_i S hp;simp only[an,Sum.inl.injEq]at e;subst e;exact wP (.ew []) S d.c9 d.reads hp (fun _ h=>h) (fun _ h=>h) (fun _ _ _ _=>rfl) (fun x M=>by have:=f.c9 x M;omega) f.one (fun _ _ _ b hb=>by have:=f.c9 _ hb;simp at this) (fun _ M _=>M)
      fun jb hv IM=>⟨d.S,f.S.mono hv,.inl ⟨hw,IM⟩⟩
   . cases e
 . rename_i hw;split at e
   . rename_i C6;split at e
     . rename_i hl;split at e
       . rename_i v h n hs;split at e
         . rename_i s' ha;simp only[an,Sum.inl.injEq]at e;subst e;exact FA hr ho f hw C6 hl ha W (.inl hs)
         . cases e
       . rename_i g args hs;split at e
         . rename_i v h n J;split at e
           . rename_i s' ha;simp only[an,Sum.inl.injEq]at e;subst e;exact FA hr ho f hw C6 hl ha W (.inr ⟨g,args,hs,J⟩)
           . cases e
         . split at e
           . cases e
           . cases e
         . cases e
       . cases e
     . cases e
   . rename_i C6;have IN:rR o.op=false:=by simpa using C6
     split at e
     . rename_i v h k hs;split at e
       . rename_i S hp;have hq:=quiet IN hs;split at e
         . rename_i hk;have uT:=aG hk;subst uT;split at e
           . rename_i ae1;simp only[an,Sum.inl.injEq]at e;subst e;obtain⟨u,X,h2⟩:=IJ ae1 hs;cases X;exact wP v S d.c9 d.reads hp (fun _ h=>h) (fun _ h=>h) (fun _ _ _ _=>rfl) (fun x M=>by have:=f.c9 x M;omega) f.one (fun _ _ _ b hb=>by have:=f.c9 _ hb;simp at this) (fun _ M _=>M)
              fun jb hv IM=>⟨d.S,f.S.mono hv,.inr (.inr (.inl ⟨hw,IN,fun y=>by rw[IM];exact h2 y _⟩))⟩
           . split at e
             . rename_i qh;simp only[an,Sum.inl.injEq]at e;subst e;refine wP v S d.c9 ((i,mG ops i,o,d.S,v)::d.reads) hp (fun _ h=>h) (fun x M=>by simp[M]) (fun _ _ _ _=>rfl) (fun x M=>by have:=f.c9 x M;omega) f.one (fun _ _ _ b hb=>by have:=f.c9 _ hb;simp at this) (fun _ M _=>M)
                fun jb hv IM=>⟨d.S,f.S.mono hv,.inr (.inr (.inr (.inl ⟨hw,IN,by simp[IM],fun c J X _=>?_⟩)))⟩
               rw[IM];by_cases q:c=dF.length
               . subst q;rw[<- e1,<- e2];exact⟨h,hs⟩
               . rw[f.qh]at qh;exact Fz dF.length (aC _) qh c L fun c' e' q1 _ q3=>X c' e' q1 q3
             . cases e
         . rename_i hk;split at e
           . rename_i b hb;split at e
             case isFalse=>cases e
             rename_i hwr;simp only[an,Sum.inl.injEq]at e;subst e;rcases hq with⟨u,X,_⟩|⟨u,b',X,h2,h3⟩
             . cases X;exact absurd (cP _) hk
             . cases h2;rw[H.nE _ _ X]at hb;cases hb;refine wP v S ((i,b)::d.c9) d.reads hp (fun x M=>by simp[M]) (fun _ h=>h) (fun j m x hj=>OR (aaj (he:=hr.zn) hj)) (fun x M=>?_) (fun j c c' J wO=>?_) (fun jb hv IM c J=>?_) (fun x M fS=>?_)
                fun jb hv IM=>⟨d.S,f.S.mono hv,.inr (.inl ⟨hw,IN,b,by simp,X,fun y=>by rw[IM];exact h3 y⟩)⟩
               . rcases aD.1 M with rfl|M
                 . simp
                 . have:=f.c9 x M;omega
               . rcases aD.1 J with q|q<;>rcases aD.1 wO with q'|q'
                 . cases q;cases q';rfl
                 . cases q;have:=f.c9 _ q';simp at this
                 . cases q';have:=f.c9 _ q;simp at this
                 . exact f.one j c c' q q'
               . rcases aD.1 J with q|q
                 . cases q;exact⟨d.S,f.S.mono hv,hw,IN,X,hwr,fun y=>by rw[IM];exact h3 y⟩
                 . have:=f.c9 _ q;simp at this
               . rcases aD.1 M with q|q
                 . cases q;exact absurd rfl fS
                 . exact q
           . cases e
       . cases e
     . cases e
 . cases e
end
theorem KZ(S:H V)(h:H rs):pn P cf ops I h S (fun _=>.kT) [] 0 { S:=S,eC:=[],cur:=(0,h),qh:=[],last:=none,c9:=[],reads:=[],n:=I+ops.size }:=by
 refine⟨by simp[qa],⟨fun i o t hi=>by omega,fun t _=>rfl⟩,rfl,rfl,rfl,rfl,fun c e he=>by simp at he,fun x M=>by simp at M,fun j b b' hb=>by simp at hb,fun c e o he=>by simp at he,fun j o b hb=>by simp at hb,fun c c' e e' _ he=>by simp at he,fun j o hj=>by omega⟩
theorem FB(hr:nk ops rt):∀(l:List Oper) (i:Nat) (d:Dr) (val:Nat->V) (dF:List x7) (r:Dr ⊕ (H V×V×H rs×Nat)),l=ops.toList.drop i->pn P cf ops I h0 kH val dF i d->
  rS P cf ops I l i d=some r->
  match r with
  | .inl d'=>∃jb vF,pn P cf ops I h0 kH jb vF (max i ops.size) d'
  | .inr x=>∃j o d' jb vF,ops[j]? =some o/\pn P cf ops I h0 kH jb vF j d'/\vk P cf ops I j o d'=some (.inr x)
 | [],i,d,val,dF,r,hl,f,e=>by
   simp only[rS,an]at e;subst e;have hi:ops.size<=i:=by
    have:=aL List.length hl;simp at this;omega
   rw[Nat.max_eq_left hi];exact⟨val,dF,f⟩
 |o::l,i,d,val,dF,r,hl,f,e=>by
  have hi:i<ops.size:=by
   have:=aL List.length hl;simp at this;omega
  have ho:ops[i]? =some o:=by
   have:=aL (fun x=>x[0]?) hl;simp at this;exact this.symm
  have U3:l=ops.toList.drop (i+1):=by
   have:=aL List.tail hl;simpa using this
  simp only[rS]at e;split at e
  . rename_i s' hs;obtain⟨jb,vF,f'⟩:=KY hr ho f hs;have:=FB hr l (i+1) s' jb vF r U3 f' e;cases r with
    |inl d'=>rw[show max (i+1) ops.size=max i ops.size by omega]at this;exact this
    |inr x=>exact this
  . rename_i x M;cases r with
    |inl d'=>exact absurd e (M d')
    |inr y=>exact⟨i,o,d,val,dF,ho,f,e⟩
end
theorem Good.ext{E:Env}{h h':H rs}{w:World}(g:Good E h w)(e:∀k,h'.get k=h.get k):Good E h' w:=g.sub fun m o q=>by rw[<- e];exact q
theorem iI.ext{E E':Env}{h h' h2:H rs}{w w':World}(u:iI E h w E' h' w')(e:∀k,h2.get k=h'.get k):iI E h w E' h2 w':=
 ⟨u.le,u.good.ext e,u.size,u.tape,u.os,u.output,u.keep,fun m b s W q hb=>let⟨m0,s0,a1,a2,a3⟩:=u.uF m b s (by rw[<- e];exact W) q hb;⟨m0,s0,a1,a2,fun c=>a3 (QN (e m) c)⟩,u.Eu⟩
theorem iI.frame{E E':Env}{h x y z:H rs}{w w':World}(g:Good E h w)(M:Sub x h)(u:iI E x w E' y w')
  (hz:∀k,z.get k=match y.get k with|some o=>some o|none=>if x.get k=none then h.get k else none):iI E h w E' z w':=by
 have rest:∀k o,h.get k=some o->x.get k=none->∃b s,E.ι k=some (b,s)/\E'.ι k=some (b,s)/\E'.β b=E.β b/\b<w.heap.size/\w'.heap[b]? =w.heap[b]?/\(∀m s',eG y m->E'.ι m≠some (b,s'))/\(o.wr=true->∀m s',y.get m≠none->E'.ι m≠some (b,s'))/\mC E w b s o:=by
  intro k o hk hxk;obtain⟨b,s,X,h2⟩:=g.rel k o hk;have hb:=g.ny k b s X;have fS:∀m,x.get m≠none->m≠k:=by intro m W e;subst e;exact W hxk
  have rV:∀m s',eG x m->E.ι m≠some (b,s'):=by
   intro m s' W q;exact g.inj m k b s' s (fS m W.live) (gA M W) (by rw[hk];simp) q X
  have ak1:o.wr=true->∀m s',x.get m≠none->E.ι m≠some (b,s'):=by
   intro ho m s' W q;exact g.inj k m b s s' (fun e=>fS m W e.symm) ⟨o,hk,ho⟩ (nG M W) X q
  refine⟨b,s,X,(u.le.nm k b s X).1,(u.le.nm k b s X).2,hb,u.keep b hb rV,?_,?_,h2⟩
  . intro m s' W q;obtain⟨m0,s0,a1,a2,a3⟩:=u.uF m b s' W.live q hb;exact rV m0 s0 (a3 W) a2
  . intro ho m s' W q;obtain⟨m0,s0,a1,a2,a3⟩:=u.uF m b s' W q hb;exact ak1 ho m0 s0 a1 a2
 have zc:∀k o,z.get k=some o->y.get k=some o\/(y.get k=none/\x.get k=none/\h.get k=some o):=by
  intro k o q;rw[hz]at q;split at q
  . rename_i o' hy;cases q;exact .inl hy
  . rename_i hy;split at q
    . rename_i Qn;exact .inr ⟨hy,Qn,q⟩
    . cases q
 have old:∀k o b s,h.get k=some o->o.wr=true->x.get k=none->E.ι k=some (b,s)->∀c,E'.φ b≠some c:=by
  intro k o b s hk ho hxk e c J;rcases u.Eu b c J with q|q|⟨m,s',q1,q2⟩
  . exact(g.gX b c q).2 k s ⟨o,hk,ho⟩ e
  . have:=g.ny k b s e;omega
  . exact g.inj m k b s' s (fun q=>by subst q;exact q1.live hxk) (gA M q1) (by rw[hk];simp) q2 e
 refine⟨u.le,⟨?_,?_,u.good.ny,u.good.jy,fun b c J=>⟨(u.good.gX b c J).1,fun m s W e=>?_⟩⟩,u.size,u.tape,u.os,u.output,?_,?_,?_⟩
 case refine_3=>
  obtain⟨o,W,ho⟩:=W;rcases zc m o W with ym|⟨ym,Qn,hh⟩
  . exact(u.good.gX b c J).2 m s ⟨o,ym,ho⟩ e
  . obtain⟨b',t,X,h2,_⟩:=rest m o hh Qn;rw[h2]at e;cases e;exact old m o b s hh ho Qn X c J
 case refine_6=>
  intro b c J;rcases u.Eu b c J with q|q|⟨m,s,q1,q2⟩
  . exact .inl q
  . exact .inr (.inl q)
  . exact .inr (.inr ⟨m,s,gA M q1,q2⟩)
 . intro m o W;rcases zc m o W with hy|⟨hy,Qn,W⟩
   . exact u.good.rel m o hy
   . obtain⟨b,s,X,h2,h3,h4,h5,h6,h6',h7⟩:=rest m o W Qn;exact⟨b,s,h2,iF u.le h3 h5 h7⟩
 . intro m m' b s s' fS W tN e e';obtain⟨o,W,ho⟩:=W;obtain⟨o',tN⟩:=bh.1 tN;rcases zc m o W with ym|⟨ym,Qn,hh⟩
   . rcases zc m' o' tN with ym'|⟨ym',aal,hh'⟩
     . exact u.good.inj m m' b s s' fS ⟨o,ym,ho⟩ (by rw[ym'];simp) e e'
     . obtain⟨b',t,X,h2,h3,h4,h5,h6,h6',h7⟩:=rest m' o' hh' aal;rw[h2]at e';cases e';exact h6 m s ⟨o,ym,ho⟩ e
   . obtain⟨b',t,X,h2,h3,h4,h5,h6,h6',h7⟩:=rest m o hh Qn;rw[h2]at e;cases e;rcases zc m' o' tN with ym'|⟨ym',aal,hh'⟩
     . exact h6' ho m' s' (by rw[ym'];simp) e'
     . obtain⟨b2,t2,k1,k2,_⟩:=rest m' o' hh' aal;rw[k2]at e';cases e';exact g.inj m m' _ _ _ fS ⟨o,hh,ho⟩ (by rw[hh'];simp) X k1
 . intro b hb hn;exact u.keep b hb fun m s W=>hn m s (gA M W)
 . intro m b s W e hb;obtain⟨o,W⟩:=bh.1 W;have hw:eG z m->o.wr=true:=by rintro⟨o2,q1,q2⟩;rw[W]at q1;cases q1;exact q2
   rcases zc m o W with ym|⟨ym,Qn,hh⟩
   . obtain⟨m0,s0,a1,a2,a3⟩:=u.uF m b s (by rw[ym];simp) e hb;exact⟨m0,s0,nG M a1,a2,fun q=>gA M (a3 ⟨o,ym,hw q⟩)⟩
   . obtain⟨b',t,X,h2,_⟩:=rest m o hh Qn;rw[h2]at e;cases e;exact⟨m,_,by rw[hh];simp,X,fun q=>⟨o,hh,hw q⟩⟩
theorem C7{I:Nat}{m:Nat}{x:H rs}{iy k:Nat}:∀(l:af),(∀y∈l,I+y.1<fW)->
  (gV I l m x iy).get k=match l.find? (fun y=>Nat.beq (I+y.1) k&&eu iy y.1&& !eu m y.1)with|some y=>some y.2|none=>x.get k
 | [],_=>rfl
 |(i,o)::l,ht=>by
  have ih:=C7 (k:=k) (m:=m) (x:=x) (iy:=iy) l fun y hy=>ht y (by simp[hy]);simp only[gV];by_cases hb:(eu iy i&& !eu m i)=true
  . rw[aF hb,H.eY _ _ _ (ht (i,o) (by simp))];by_cases q:k=I+i
    . subst q;rw[aF rfl,List.find?_cons_of_pos (by simp only[cP,Bool.true_and];exact hb)]
    . rw[aJ q,ih,List.find?_cons_of_neg];have:Nat.beq (I+i) k=false:=by
       cases hh:Nat.beq (I+i) k with
       |false=>rfl
       |true=>exact absurd (aG hh).symm q
      simp[this]
  . rw[aJ hb,ih,List.find?_cons_of_neg];intro q;simp only[Bool.and_assoc]at q;rw[aE]at q;exact hb q.2
section
variable{I m:Nat}{x:H rs}
theorem jV{iy i:Nat}{b:rs}{l:af}(ht:∀y∈l,I+y.1<fW)(one:∀(j:Nat) (b b':rs),(j,b)∈l->(j,b')∈l->b=b')(hi:(i,b)∈l)
  (ha:eu iy i=true) (W:eu m i=false):(gV I l m x iy).get (I+i)=some b:=by
 rw[C7 l ht];cases hf:l.find? (fun y=>Nat.beq (I+y.1) (I+i)&&eu iy y.1&& !eu m y.1)with
 |none=>
  have:=List.find?_eq_none.1 hf (i,b) hi;simp[cP,ha,W]at this
 |some y=>
  have X:=List.mem_of_find?_eq_some hf;have h2:=List.find?_some hf;simp only[aE]at h2;have h3:=aG h2.1.1;have h4:y.1=i:=by omega
  obtain⟨y1,y2⟩:=y;simp only at h4;subst h4;simp only[one y1 y2 b X hi]
theorem qW{iy k:Nat}{l:af}(ht:∀y∈l,I+y.1<fW)(h:∀i b,(i,b)∈l->eu iy i=true->eu m i=false->k≠I+i):(gV I l m x iy).get k=x.get k:=by
 rw[C7 l ht];cases hf:l.find? (fun y=>Nat.beq (I+y.1) k&&eu iy y.1&& !eu m y.1)with
 |none=>rfl
 |some y=>
  have X:=List.mem_of_find?_eq_some hf;have h2:=List.find?_some hf;simp only[aE,Bool.not_eq_true']at h2;exact absurd (aG h2.1.1).symm (h y.1 y.2 X h2.1.2 h2.2)
theorem jB{iy:Nat}{l:af}(ht:∀y∈l,I+y.1<fW)(one:∀(j:Nat) (b b':rs),(j,b)∈l->(j,b')∈l->b=b')(k:Nat):
  (∃i b,(i,b)∈l/\eu iy i=true/\eu m i=false/\k=I+i/\(gV I l m x iy).get k=some b) \/
  ((∀i b,(i,b)∈l->eu iy i=true->eu m i=false->k≠I+i)/\(gV I l m x iy).get k=x.get k):=by
 by_cases h:∃i b,(i,b)∈l/\eu iy i=true/\eu m i=false/\k=I+i
 . obtain⟨i,b,X,h2,h3,rfl⟩:=h;exact .inl ⟨i,b,X,h2,h3,rfl,jV ht one X h2 h3⟩
 . have h':∀i b,(i,b)∈l->eu iy i=true->eu m i=false->k≠I+i:=fun i b X h2 h3 q=>h ⟨i,b,X,h2,h3,q⟩;exact .inr ⟨h',qW ht h'⟩
end
def OT(E:Env):h1->Exit->Prop
 | .normal,.normal=>True
 | .exit i,.exit j=>i=j
 | .ret,.ret=>True
 | .panic v,.panic chain=>∃v',dJ E v v'/\chain=[{ v:=v',recovered:=false }]
 |_,_=>False
section
variable{P:Program}{cf:ga}{ops:Array Oper}{I rt l5:Nat}{h0:H rs}{kH:H V}{val:Nat->V}{dF:List x7}{d:Dr}{E0:Env}{w0:World}{BW:List Deferred}
structure Inv(ops:Array Oper)(I rt l5:Nat)(h0:H rs)(kH:H V)(val:Nat->V)(dF:List x7)(c9:af)(E0:Env)(w0:World)(BW:List Deferred)
  (fr:Nat->Bool) (ms hc:Nat) (E:Env) (a:Act) (w:World):Prop where
 bits:∀i,eu ms i=fr i
 VC:∀i,fr i=true->i<l5
 closed:∀(j:Nat) (o:Oper),fr j=true->ops[j]? =some o->∀e∈o.after,Region.binds .any e=true->fr e.on=true
 GU:∀(c:Nat) (e:x7),dF[c]? =some e->(fr e.1=true↔c<hc)
 Jle:hc<=dF.length
 f1:∀(j:Nat) (o:Oper) (t:Nat),fr j=true->ops[j]? =some o->o.dst=some t->∃v',a.tmps[t]? =some v'/\dJ E (val j) v'
 f2:∀(t:Nat) (v:V),kH.get t=some v->(∀(j:Nat) (o:Oper),fr j=true->ops[j]? =some o->o.dst≠some t)->∃v',a.tmps[t]? =some v'/\dJ E v v'
 qT:iI E0 h0 w0 E (gV I c9 (eF h0 (I+ops.size) dF hc).1 (eF h0 (I+ops.size) dF hc).2.1 ms) w
 old:∀k,k<I->E.ι k=E0.ι k
 oI:∀k p,E.ι k=some p->k<I\/(∃i b,(i,b)∈c9/\fr i=true/\k=I+i)\/(I+ops.size<=k/\k<(eF h0 (I+ops.size) dF hc).2.2)
 free:∀i,i<ops.size->eu (eF h0 (I+ops.size) dF hc).1 i=false->(eF h0 (I+ops.size) dF hc).2.1.get (I+i)=none
 zu:I+ops.size<=(eF h0 (I+ops.size) dF hc).2.2
 size:a.tmps.size=rt
 gD:a.defers=BW
theorem Inv.iy(hr:nk ops rt){c9:af}{fr:Nat->Bool}{ms hc:Nat}{E:Env}{a:Act}{w:World}(n0:Inv ops I rt l5 h0 kH val dF c9 E0 w0 BW fr ms hc E a w){j k:Nat}(hj:fr j=true)(h:eu (mG ops j) k=true):fr k=true:=
 C3 hr.zn (fr:=fun i=>fr i=true) (fun j o hs ho e he hb=>n0.closed j o hs ho e he hb) j k hj h
theorem wQ(hr:nk ops rt){fr:Nat->Bool}(hS:∀(j:Nat) (o:Oper),fr j=true->ops[j]? =some o->∀e∈o.after,Region.binds .any e=true->fr e.on=true){j k:Nat}{o:Oper}(ho:ops[j]? =some o)
  (hd:∀e∈o.after,Region.binds .any e=true->fr e.on=true) (h:eu (mG ops j) k=true):fr k=true:=by
 obtain⟨e,X,h2,h3⟩:=(zm hr.zn ho).1 h;rcases h3 with rfl|h3
 . exact hd e X h2
 . exact C3 hr.zn (fr:=fun i=>fr i=true) hS e.on k (hd e X h2) h3
theorem Inv.ae4(hr:nk ops rt)(f:pn P cf ops I h0 kH val dF l5 d){fr:Nat->Bool}{ms hc:Nat}{E:Env}{a:Act}{w:World}
  (n0:Inv ops I rt l5 h0 kH val dF d.c9 E0 w0 BW fr ms hc E a w) {i:Nat} (h:eu (eF h0 (I+ops.size) dF hc).1 i=true):fr i=true:=by
 cases hc with
 |zero=>simp[eF,kM]at h
 |succ c=>
  have J:c<dF.length:=by have:=n0.Jle;omega
  have he:dF[c]? =some dF[c]:=az J;simp only[eF,he]at h;obtain⟨_,o,_,_,h3⟩:=f.vD c _ he;rw[h3]at h;exact n0.iy hr ((n0.GU c _ he).2 L) h
theorem Inv.use(hr:nk ops rt){c9:af}{fr:Nat->Bool}{ms hc:Nat}{E:Env}{a:Act}{w:World}(n0:Inv ops I rt l5 h0 kH val dF c9 E0 w0 BW fr ms hc E a w)
  {j:Nat} {o:Oper} (ho:ops[j]? =some o) (hj:fr j=false) (hd:∀e∈o.after,Region.binds .any e=true->fr e.on=true) {S:H V} (hf:AA ops kH val j S) {t:Nat} (ht:t∈vl ops o) {v:V} (hv:S.get t=some v):
  ∃v',a.tmps[t]? =some v'/\dJ E v v':=by
 by_cases h:∃i q,i<j/\ops[i]? =some q/\q.dst=some t
 . obtain⟨i,q,X,h2,h3⟩:=h;have hu:=hr.use i j q o t h2 ho L h3 ht;rw[aF X]at hu;have hi:=wQ hr n0.closed ho hd hu;have:=hf.new i q t X h2 h3;rw[this]at hv;cases hv;exact n0.f1 i q t hi h2 h3
 . have pb:=hf.old t fun i q hi hq hd=>h ⟨i,q,hi,hq,hd⟩;rw[pb]at hv;refine n0.f2 t v hv fun i q hi hq U5=>?_;have fS:i≠j:=by intro e;subst e;rw[hj]at hi;cases hi
   have hu:=hr.use i j q o t hq ho fS U5 ht;split at hu
   . rename_i fH;exact h ⟨i,q,fH,hq,U5⟩
   . have:=n0.iy hr hi hu;rw[hj]at this;cases this
theorem Inv.vj(hr:nk ops rt){c9:af}{fr:Nat->Bool}{ms hc:Nat}{E:Env}{a:Act}{w:World}(n0:Inv ops I rt l5 h0 kH val dF c9 E0 w0 BW fr ms hc E a w)
  {j:Nat} {o:Oper} (ho:ops[j]? =some o) (hj:fr j=false) (hd:∀e∈o.after,Region.binds .any e=true->fr e.on=true) {S:H V} (hf:AA ops kH val j S):∀x∈o.op.operands,mX E S a.eval x:=by
 intro x M v hv;cases x with
 |tmp t=>
  have ht:t∈vl ops o:=by
   unfold vl;refine cL _ (List.mem_filterMap.2 ⟨.tmp t,by simpa using M,rfl⟩)
  obtain⟨v',X,h2⟩:=n0.use hr ho hj hd hf ht hv;simp only[Act.eval,ck,X];exact h2
 |const c=>exact Ar hv
 |func f=>simp only[iX,an]at hv;subst hv;exact⟨_,[],[],rfl,rfl,rfl,rfl⟩
 |global g=>exact Il n0.qT.good.jy hv
theorem Inv.wanted(hr:nk ops rt){c9:af}{fr:Nat->Bool}{ms hc:Nat}{E:Env}{a:Act}{w:World}(n0:Inv ops I rt l5 h0 kH val dF c9 E0 w0 BW fr ms hc E a w)
  {j:Nat} {o:Oper} (ho:ops[j]? =some o) (hj:fr j=false) (hd:∀e∈o.after,Region.binds .any e=true->fr e.on=true) {S:H V} (hf:AA ops kH val j S) {b:Bool} (e:iL ops o S=some b):
  Region.wanted o (yielded ops a.tmps)=b:=by
 refine x5 (E:=E) (fun g Kw q t hg hq hdq v hv=>?_) e;have ht:t∈vl ops o:=by
  unfold vl;refine cj _ ?_;simp only[hg,hq,hdq];simp
 exact n0.use hr ho hj hd hf ht hv
theorem Inv.frame(hr:nk ops rt){c9:af}{fr:Nat->Bool}{ms hc:Nat}{E E':Env}{a:Act}{w:World}(n0:Inv ops I rt l5 h0 kH val dF c9 E0 w0 BW fr ms hc E a w)
  {j:Nat} {o:Oper} (ho:ops[j]? =some o) (kR:E.le E') {v':Value} (hv:dJ E' (val j) v'):
  (∀(k:Nat) (q:Oper) (t:Nat),(fr k||decide (k=j))=true->ops[k]? =some q->q.dst=some t->∃v2,(a.put o.dst v').tmps[t]? =some v2/\dJ E' (val k) v2)/\
  (∀(t:Nat) (v:V),kH.get t=some v->(∀(k:Nat) (q:Oper),(fr k||decide (k=j))=true->ops[k]? =some q->q.dst≠some t)->∃v2,(a.put o.dst v').tmps[t]? =some v2/\dJ E' v v2):=by
 have uN:nM a.tmps.size o.dst:=by rw[n0.size];exact hr.dst j o ho
 refine⟨fun k q t hk hq ht=>?_,fun t v hv0 ht=>?_⟩
 . by_cases c:k=j
   . subst c;rw[ho]at hq;cases hq;have:=uN t ht;exact⟨v',by simp[Act.put,ht,this],hv⟩
   . have uT:fr k=true:=by simpa[c]using hk
     obtain⟨v2,X,h2⟩:=n0.f1 k q t uT hq ht;refine⟨v2,?_,jx kR _ _ h2⟩;cases hd:o.dst with
     |none=>exact X
     |some u=>
      have fS:u≠t:=by intro e;subst e;exact c (hr.one k j q o u hq ho ht hd)
      simp[Act.put,fS,X]
 . obtain⟨v2,X,h2⟩:=n0.f2 t v hv0 fun k q hk hq=>ht k q (by simp[hk]) hq;refine⟨v2,?_,jx kR _ _ h2⟩;cases hd:o.dst with
   |none=>exact X
   |some u=>
    have fS:u≠t:=by intro e;subst e;exact ht j o (by simp) ho hd
    simp[Act.put,fS,X]
end
end Go.Eng
