/- Lemmas of the engine. No conditions. -/
import Derived.Test.YtmjggdmekboefaaGreatJointW00
import Derived.Lib.UnsafeStr
import Derived.RangeFuncSeq
import Derived.TacticsIn
set_option linter.unusedVariables false
set_option linter.unusedSimpArgs false
set_option linter.unusedSectionVars false
namespace Go.Eng
open Go
section
variable{P:Program}{E:Env}{h:J h2}{n:Nat}{w:World}
theorem B4(s:aa):dZ E (BO s) (s.map fun b=>Value.int .u8 b.toNat):=by
 refine jd (by simp[BO]) fun i v q=>?_;simp only[BO,bI,Option.map_eq_some_iff]at q ⊢;obtain⟨b,q1,rfl⟩:=q;exact⟨_,⟨b,q1,rfl⟩,rfl⟩
theorem B5(s:aa):(fV s).map (V.int .u8)=BO s:=by simp[fV,BO]
theorem B6{Y:List Int}{o len:Nat}{vs:List Value}(r:dZ E (((Y.map (V.int .u8)).drop o).take len) vs):vs=((Y.drop o).take len).map (Value.int .u8):=by
 rw[<- List.map_drop,<- List.map_take]at r;revert r;generalize (Y.drop o).take len=l;intro r
 induction l generalizing vs with
 |nil=>exact r
 |cons x l ih=>
  obtain⟨y,ys,r0,rs,rfl⟩:=r;simp only[dV]at r0;subst r0;rw[ih rs];rfl
theorem Jw{m b s:Nat}{t:aa}(g:Good E h w)(hi:E.ι m=some (b,s))(e:ur (h.get m)=some t):∃c el fz xs,w.heap[b]? =some (.cells c el fz)/\s=0/\iy xs=t/\∀(j:Nat) (x:Int),xs[j]? =some x->c[j]? =some (.int .u8 x):=by
 unfold ur at e;split at e
 . rename_i el Ac t' K;cases e;obtain⟨b',X,AW,c,fz,xs,Q,O,_,_,h3,h4⟩:=g.rel m _ K;rw[hi]at AW;cases AW;exact⟨c,el,fz,xs,Q,O,h3,h4⟩
 . cases e
theorem Mw{m b s:Nat}{Y:List Int}(g:Good E h w)(hi:E.ι m=some (b,s))(e:Ad (h.get m)=some Y):∃c el fz,w.heap[b]? =some (.cells c el fz)/\lS E s (Y.map (.int .u8)) c:=by
 unfold Ad at e;split at e
 . rename_i pC K;cases e;obtain⟨b',X,AW,c,el,fz,Q,_,_,O⟩:=g.rel m _ K;rw[hi]at AW;cases AW;exact⟨c,el,fz,Q,O⟩
 . rename_i pC K;cases e;obtain⟨b',X,AW,c,el,fz,Q,_,O⟩:=g.rel m _ K;rw[hi]at AW;cases AW;exact⟨c,el,fz,Q,nF.2 O⟩
 . cases e
theorem B7:∀(bs:ag) (s:aa) (bs':List Value),qy bs=some s->dZ E bs bs'->
  ∃ns:List Int,bs'=ns.map (Value.int .u8)/\s=ns.map fun n=>UInt8.ofNat n.toNat
 | [],s,bs',e,r=>by
   simp only[qy,aq]at e;subst e;simp only[dZ]at r;subst r;exact⟨[],rfl,rfl⟩
 |x::xs,s,bs',e,r=>by
  obtain⟨y,ys,rx,rs,rfl⟩:=r;cases x with
  |int k m=>
   cases k<;>simp only[qy]at e<;>first|(cases e;done)|skip
   cases I:qy xs with
   |none=>simp[I]at e
   |some t=>
    simp only[I,aq]at e;subst e;simp only[dV]at rx;subst rx;obtain⟨ns,Q,O⟩:=B7 xs t ys I rs;exact⟨m::ns,by simp[Q],by simp[O]⟩
  |_=>simp[qy]at e
theorem sR:∀(ns:List Int) (r:ByteArray),ns.foldl (fun r n=>r.push (UInt8.ofNat n.toNat)) r=⟨r.data++(ns.map fun n=>UInt8.ofNat n.toNat).toArray⟩
 | [],r=>by simp
 |n::ns,r=>by
  simp only[dh];rw[sR ns];simp[ByteArray.push]
theorem Jx{Le dst:TypeId}{x:V}{x':Value}{r:cs}(g:Good E h w)(hn:E.ι n=none)(rx:dV E x x')(e:oS P Le dst x h n=some r):
  jP P E h n w (do pure (.value (<- convert Le dst x'))) r:=by
 unfold oS at e;split at e
 . rename_i d k k' m Q O;obtain rfl:=eH e;simp only[dV]at rx;subst rx;refine eu g (v':=.int k (k.wrap m)) ?_ rfl;simp[convert,dP Q,dP O,Conv.intToInt]
 . rename_i d s Q O;obtain rfl:=eH e;simp only[dV]at rx;subst rx;refine eu g (v':=.string ⟨s.toArray⟩) ?_ rfl;simp[convert,dP Q,dP O]
 . rename_i d k m Q O;obtain rfl:=eH e;simp only[dV]at rx;subst rx;refine eu g (v':=.string (Utf8.encode m)) ?_ (by show _=_;unfold gT;simp);simp[convert,dP Q,dP O,Conv.intToString]
 . rename_i el s Q O;simp only[dV]at rx;subst rx;split at e
   . rename_i hu;cases ho:newObj h n (.own .u8 (fV s))with
     |none=>simp[ho]at e
     |some p=>
      obtain⟨h',n'⟩:=p;simp only[ho,aq]at e;subst e;have my:(⟨s.toArray⟩:ByteArray).size=s.length:=by show s.toArray.size=_;simp
      have gm:=run_bytes_of_string w Le dst el ⟨s.toArray⟩ Q O hu;rw[my]at gm;have oe:s.length<=grownCap w s.length 0 el:=by simp only[grownCap,Question.cut];omega
      have B:(bytesRow ⟨s.toArray⟩ (grownCap w s.length 0 el)).size=grownCap w s.length 0 el:=by simp[bytesRow,my];omega
      refine G5 (r:=.is .u8 (fV s)) (w1:=w.drew) (c:=bytesRow ⟨s.toArray⟩ (grownCap w s.length 0 el)) (el:=el) (fz:=((bytesRow ⟨s.toArray⟩ (grownCap w s.length 0 el)).size,(bytesRow ⟨s.toArray⟩ (grownCap w s.length 0 el)).size+1)) (v':=.slice (some ⟨w.heap.size,0,none⟩) s.length (grownCap w s.length 0 el)) g hn trivial ho rfl rfl rfl rfl ?_ ?_ ?_ ?_
      . intro i hi q;simp at q;omega
      . simp only[Sem.run_bind,gm,Result.andThen_ok,Sem.run_pure]
      . intro i v q;obtain⟨v',q1,q2⟩:=gK (B4 (E:=E) s) i v (by rw[<- B5];exact q);refine⟨v',?_,q2⟩;simp only[bytesRow,b7];rw[cj (by simpa using (aR.1 q1).1)];simpa using q1
      . refine⟨w.heap.size,0,0,grownCap w s.length 0 el,Env.fP,fun _=>rfl,aK _,oe,?_,rfl⟩;simp[Env.put,B]
   . cases e
 . rename_i el f R Q O;have I:∃a jO,x'= .slice a 0 jO:=by obtain⟨a,jO,_,I,_⟩:=rx.1;exact⟨a,jO,I⟩
   obtain⟨a,jO,rfl⟩:=I;split at e
   . rename_i hu;obtain rfl:=eH e;refine eu g (v':=.string .empty) ?_ rfl;cases a<;>simp[convert,dP Q,dP O,dP hu,Conv.bytesToString,loadCells,loadCellsFrom]
   . cases e
 . rename_i el _ _ _ Q O;obtain⟨_,_,rfl⟩:=rx;split at e
   . rename_i hu;obtain rfl:=eH e;refine eu g (v':=.string .empty) ?_ rfl;simp[convert,dP Q,dP O,dP hu,Conv.bytesToString]
   . cases e
 . rename_i el m o len jO jv Q O;split at e
   . rename_i hu;split at e
     . rename_i Wc;subst Wc;obtain⟨b,sh,o',gx,hi,c1,c2,c3,c4,rfl⟩:=rx;split at e
       . rename_i s0 K;split at e
         . rename_i kK;obtain rfl:=eH e;obtain⟨c,Z5,fz,xs,rM,hsh,B8,Eg⟩:=Jw g hi K;subst hsh;refine eu g (v':=.string ⟨((s0.drop o).take len).toArray⟩) ?_ rfl;rcases Nat.eq_zero_or_pos len with Dx|Wd
           . subst Dx;simp[convert,dP Q,dP O,dP hu,Conv.bytesToString,loadCells,loadCellsFrom];rfl
           . have kK:o+len<=s0.length:=kK.resolve_left H;have Jy:xs.length=s0.length:=by rw[<- B8];simp[iy]
             have DP:o'=0+o:=c1 H;subst DP;have aaP:lS E 0 (xs.map (.int .u8)) c:=nF.2 (by simpa using Eg);have hb:=nI aaP (k:=o+len) H (by simp;omega);have U4:=run_loadCells (P:=P) (o:=0+o) (n:=len) rM H;rw[B6 (nJ aaP (by simp;omega) H)]at U4;rw[Sem.run_bind,run_convert_bytes_string w Le dst el _ len gx Q hu O,run_bytesToString w _ len gx _ U4,sR];simp[<- B8,iy,List.map_take,List.map_drop]
         . cases e
       . split at e
         . rename_i Y K;split at e
           . rename_i kK;obtain rfl:=eH e;obtain⟨c,Z5,fz,rM,Eg⟩:=Mw g hi K;refine eu g (v':=.string ⟨(iy ((Y.drop o).take len)).toArray⟩) ?_ rfl;rcases Nat.eq_zero_or_pos len with Dx|Wd
             . subst Dx;simp[convert,dP Q,dP O,dP hu,Conv.bytesToString,loadCells,loadCellsFrom,iy];rfl
             . have kK:o+len<=Y.length:=kK.resolve_left H;have DP:o'=sh+o:=c1 H;subst DP;have hb:=nI Eg (k:=o+len) H (by simpa using kK);have U4:=run_loadCells (P:=P) (o:=sh+o) (n:=len) rM H;rw[B6 (nJ Eg (by simpa using kK) H)]at U4;rw[Sem.run_bind,run_convert_bytes_string w Le dst el _ len gx Q hu O,run_bytesToString w _ len gx _ U4,sR];simp[iy]
           . cases e
         . split at e
           . obtain rfl:=eH e;refine eu g (v':=.string .empty) ?_ rfl;simp[convert,dP Q,dP O,dP hu,Conv.bytesToString,loadCells,loadCellsFrom]
           . rename_i Dx;split at e
             . rename_i R K;cases B:cut R o len with
               |none=>simp[B]at e
               |some bs=>
                simp only[B]at e;cases ht:qy bs with
                |none=>simp[ht]at e
                |some s=>
                 simp only[ht,aq]at e;subst e;obtain⟨kK,rfl⟩:=za B;have Wd:0<len:=by
                  cases len with
                  |zero=>exact absurd rfl Dx
                  |succ _=>omega
                 have DP:o'=sh+o:=c1 H;subst DP;obtain⟨b',sh',AW,c,Z5,fz,rM,_,_,Eg⟩:=g.rel m _ K;rw[hi]at AW;cases AW;have hb:=nI Eg (k:=o+len) H kK;have U4:=run_loadCells (P:=P) (o:=sh+o) (n:=len) rM H;obtain⟨ns,n1,n2⟩:=B7 _ s _ ht (nJ Eg kK H);rw[n1]at U4;refine eu g (v':=.string ⟨s.toArray⟩) ?_ rfl;rw[Sem.run_bind,run_convert_bytes_string w Le dst el _ len gx Q hu O,run_bytesToString w _ len gx ns U4,sR,<- n2];simp
             . cases e
     . cases e
   . cases e
 . cases e
theorem Ei{t:TypeId}{i:TypeInfo}{z:V}(hi:P.info? t=some i)(hz:zeroOf P t=some z):∃z',i.zero=some z'/\(zeroValue t).run P w= .ok z' w/\dV E z z':=by
 obtain⟨z',Q,O,i',h3,h4⟩:=kZ (P:=P) (w:=w) E hz;rw[hi]at h3;cases h3;exact⟨z',h4,Q,O⟩
theorem G8(k:IntKind)(Y:List Int):∀n,(Sr Y n).map (V.int k)=gX (Y.map (V.int k)) n
 |0=>rfl
 |n+1=>by rw[Sr,gX,bQ,G8 k Y n]
theorem Ox{z z':ag}(h:wk z z'):∀n,wk (gX z n) (gX z' n)
 |0=>iT _
 |n+1=>y5 h (Ox h n)
theorem G9(ds:ai):∀n,D.fQ (E8 ds n)=gX (D.fQ ds) n
 |0=>rfl
 |n+1=>by rw[E8,gX,<- G9 ds n,D.gh,D.gh,D.gh,bQ]
theorem Lg{ds:ai}(h:∀x∈ds,x.scalar=true):∀n,∀x∈E8 ds n,x.scalar=true
 |0,x,I=>by simp[E8]at I
 |n+1,x,I=>(bg.1 I).elim (h x) (Lg h n x)
theorem B9(z:ag)(n:Nat):wk (gX z n) (vj z n).jQ/\(vj z n).sc:=by
 have key:∀z:ag,wk (gX z n) (match iu z with|some ds=>Row.ds (E8 ds n)|none=>Row.vs (gX z n)).jQ/\(match iu z with|some ds=>Row.ds (E8 ds n)|none=>Row.vs (gX z n)).sc:=by
  intro z;split
  . rename_i ds h;refine⟨?_,Lg (nH h) n⟩;simp only[Row.jQ,G9];exact Ox (xJ h) n
  . exact⟨iT _,trivial⟩
 unfold vj;split
 . rename_i k x r;split
   . rename_i Y h;refine⟨?_,trivial⟩;rw[rF h];simp only[Row.jQ,G8];exact iT _
   . exact key _
 . exact key _
theorem Fm{t:TypeId}{l c:V}{l' c':Value}{r:cs}(g:Good E h w)(hn:E.ι n=none)(rl:dV E l l')(rc:dV E c c')(e:nB P t l c h n=some r):
  jP P E h n w (do pure (.value (<- Instr.makeSlice t l' c'))) r:=by
 unfold nB at e;split at e
 . rename_i el k l k' c he;simp only[dV]at rl rc;subst rl;subst rc;split at e
   . rename_i i z hi hz;simp only at e;split at e
     . rename_i hq;obtain⟨q1,q2,q3,q4,q5⟩:=hq;cases ho:newObj h n (vj z.cells (IntKind.i64.wrap c).toNat).Eb with
       |none=>simp[ho]at e
       |some p=>
        obtain⟨h',n'⟩:=p;simp only[ho,aq]at e;subst e;obtain⟨z',Lh,He,hz3⟩:=Ei (P:=P) (E:=E) (w:=w) hi hz;have Z2:=iD hz3;have Oo:=B0 Z2 H (IntKind.i64.wrap c).toNat;rw[q2]at Oo;generalize hC:(IntKind.i64.wrap c)=be at *;generalize G:(IntKind.i64.wrap l)=iX at *;have hu:=G7 he;have my:(sizeOf el).run P w= .ok i.size w:=by simp[sizeOf,typeInfo,hi]
        refine sN (w1:=w) (c:=(Array.range (be.toNat*i.size)).map (z'.cells[·%z'.cells.size]!)) (el:=el) (v':=.slice (some ⟨w.heap.size,0,none⟩) iX.toNat be.toNat) g hn (B9 _ _).2 ho rfl rfl rfl rfl ?_ (by refine xK (B9 _ _).1 ?_;exact n5 Oo) ?_
        . have SA:¬((i.bytes:Int)*be>2^48):=by omega
          simp only[Instr.makeSlice,Sem.run_bind,dP hu,Result.andThen_ok,asInt,asIntOf,Sem.run_pure,typeInfo,run_program,hi,hC,G];rw[aB (by simp;omega)];simp only[Sem.run_bind,run_askRoom,Result.andThen_ok,my,Sem.run_ite,Sem.run_pure,He];by_cases h0:be.toNat*i.size=0
          . rw[aG h0];have e0:∀f:Nat->Value,Array.map f (Array.range 0)=#[]:=fun f=>by apply Array.ext' ;simp
            simp[h0,newRow,e0]
          . rw[aB h0];simp[newRow]
        . refine⟨w.heap.size,0,0,be.toNat,Env.fP,fun _=>rfl,H,aK _,?_,rfl⟩;simp[Env.put]
     . cases e
   . cases e
 . cases e
theorem Hf{size k:Nat}{x:V}{new:Row}{x':Value}(g:Good E h w)(r:dV E x x')(e:jz h size x=some (k,new)):
  (∀w1:World,(Builtin.lenOf x').run P w1= .ok k w1)/\new.jQ.length=k*size/\new.sc/\
   ∃kz:Array Value,(∀w1:World,w1.heap=w.heap->(Builtin.firstCells size k x').run P w1= .ok kz w1)/\dZ E new.jQ kz.toList:=by
 unfold jz at e;split at e
 . rename_i len _ _;split at e
   . rename_i hl;obtain⟨rfl,rfl⟩:=ga e;obtain⟨_,_,rfl⟩:=r;exact⟨fun _=>rfl,by simp[Row.jQ],trivial,#[],fun _ _=>rfl,by simp[dZ,Row.jQ]⟩
   . cases e
 . rename_i m o len jO jv;split at e
   . rename_i Wc;subst Wc;obtain⟨b,sh,o',gx,hi,c1,c2,c3,c4,rfl⟩:=r;split at e
     . obtain⟨rfl,rfl⟩:=ga e;refine⟨fun _=>rfl,by simp[Row.jQ],trivial,#[],fun _ _=>?_,by simp[dZ,Row.jQ]⟩;simp[Builtin.firstCells,loadCells,loadCellsFrom]
     . rename_i Dx;split at e
       . rename_i ob K;split at e
         . rename_i rw0 Ca;cases tM:rw0.cut o (len*jv)with
           |none=>simp[tM]at e
           |some x=>
            simp only[tM,aq,aF]at e;obtain⟨rfl,rfl⟩:=e;obtain⟨kK,I⟩:=za (Row.Ff tM);have Wd:0<len:=by
             cases len with
             |zero=>exact absurd rfl Dx
             |succ _=>omega
            have DP:o'=sh+o:=c1 H;subst DP;obtain⟨b',sh',AW,q0⟩:=g.rel m _ K;obtain⟨⟨c,Z5,fz,rM,my,Eg⟩,Jm⟩:=Mq Ca q0;rw[hi]at AW;cases AW;have ze:sh+o+len*jv<=c.size:=by
             have:len*jv<=gx*jv:=cI _ H;omega
            refine⟨fun _=>rfl,by rw[I];simp;omega,Row.Og tM Jm,((c.toList.drop (sh+o)).take (len*jv)).toArray,fun w1 Jp=>?_,by rw[I];simpa using nJ Eg kK ze⟩;simp only[Builtin.firstCells];exact run_loadCells (by rw[Jp];exact rM) ze
         . cases e
       . cases e
   . cases e
 . rename_i s;split at e
   . rename_i pW;obtain⟨rfl,rfl⟩:=ga e;simp only[dV]at r;subst r;have my:(⟨s.toArray⟩:ByteArray).size=s.length:=by show s.toArray.size=_;simp
     refine⟨fun _=>?_,by simp[fV,pW,Row.jQ],trivial,(s.map fun b=>Value.int .u8 b.toNat).toArray,fun w1 _=>?_,by simp only[Row.jQ,B5];exact B4 s⟩
     . simp[Builtin.lenOf,my]
     . simp only[Builtin.firstCells,Sem.run_pure];congr 1;apply Array.ext';simp
   . cases e
 . rename_i f len R;split at e
   . rename_i hl;obtain⟨rfl,rfl⟩:=ga e;obtain⟨⟨a,jO,vs,rfl,oe,hd,h0,xS⟩,_⟩:=r;have hvl:=o7 hd;refine⟨fun _=>rfl,by simp only[Row.jQ,D.gh,bG];exact hl,jc hd,vs.toArray,fun w1 Jp=>?_,by simpa[Row.jQ]using vo _ _ hd⟩;rcases Nat.eq_zero_or_pos len with hz|hp
     . have:=h0 hz;subst this;have hv:vs=[]:=by simpa using hvl
       subst hv;subst hz;cases a<;>simp[Builtin.firstCells,loadCells,loadCellsFrom]
     . obtain⟨b,o,c,rfl,DJ,B⟩:=xS hp;obtain⟨⟨el,fz,rM⟩,_⟩:=g.iz b c DJ;have aaQ:(c.toList.drop o).take (len*size)=vs:=by
        apply List.ext_getElem?;intro j;rw[bS,bU];by_cases hj:j<len*size
        . rw[aG hj];have SB:j<vs.length:=by omega
          have:=B j _ (au SB);rw[au SB,<- this];simp
        . rw[aB hj,cL H]
       simp only[Builtin.firstCells];rcases Nat.eq_zero_or_pos (len*size)with q|q
       . have hn:vs=[]:=by simpa[hl,q]using hvl
         subst hn;rw[q];rfl
       . have ze:o+len*size<=c.size:=by
          have:((c.toList.drop o).take (len*size)).length=len*size:=by rw[aaQ];omega
          simp at this;omega
         rw[run_loadCells (by rw[Jp];exact rM) ze,aaQ]
   . cases e
 . cases e
end
section
variable{P:Program}{E:Env}{h:J h2}{n:Nat}{w:World}
theorem mU(z:Array Value)(k:Nat):(Builtin.zeroCells z k).size=k*z.size:=by simp[Builtin.zeroCells]
theorem Cb{Mo size bytes:Nat}(q:fo Mo size bytes=true):Mo*bytes<=281474976710/\Mo*size<=281474976710:=by
 simpa[fo]using q
theorem tN{b o:Nat}{el:TypeId}{fz:Nat×Nat}:∀(vs:List Value) (i:Nat) (w:World) (c:Array Value),w.heap[b]? =some (.cells c el fz)->
  (∀j,o+i<=j->j<o+i+vs.length->¬(fz.1<=j/\j<fz.2))->(∀v∈vs,v.oneCell'=true)->o+i+vs.length<=c.size->
  ∃w',(storeCells ⟨b,o,none⟩ vs i).run P w= .ok () w'/\w'.heap[b]? =some (.cells (putCells c (o+i) vs) el fz)/\w'.heap.size=w.heap.size/\w'.tape=w.tape/\w'.os=w.os/\w'.output=w.output/\
   ∀x,x≠b->w'.heap[x]? =w.heap[x]?
 | [],i,w,c,h,_,_,hn=>by
   refine⟨w,rfl,?_,rfl,rfl,rfl,rfl,fun _ _=>rfl⟩;rw[h];have:putCells c (o+i) []=c:=by simp[putCells]
   rw[this]
 |v::vs,i,w,c,h,hf,hv,hn=>by
  simp only[aP]at hn hf;have eO:o+i<c.size:=by omega
  have hnf:w.frozen? ⟨b,o+i,none⟩=false:=by
   have:=hf (o+i) (aK _) H;simp only[World.frozen?,h];simpa using this
  let w1:=w.setCell ⟨b,o+i,none⟩ v
  have Jp:w1.heap[b]? =some (.cells (c.setIfInBounds (o+i) v) el fz):=by
   simp[w1,World.setCell,cR,h]
  obtain⟨w',e1,e2,e3,e4,e5,e6,e7⟩:=tN (o:=o) vs (i+1) w1 (c.setIfInBounds (o+i) v) Jp (fun j Q O=>hf j H H) (fun v hv'=>hv v (by simp[hv'])) (by simp only[Array.size_setIfInBounds];omega);refine⟨w',?_,?_,by rw[e3];simp[w1],by rw[e4];rfl,by rw[e5];rfl,by rw[e6];rfl,?_⟩
  . simp only[storeCells,Sem.run_bind];rw[run_store P w _ v .plain (hv v (by simp)),Addr.jb,mP h,bf eO];simp only[hnf,aM,cz,Result.andThen_ok];exact e1
  . rw[e2];have:o+(i+1)=o+i+1:=by omega
    rw[this,qV H]
  . intro x I;rw[e7 x I];simp[w1,World.setCell,cR,Ne.symm I]
theorem xU:∀{l:ag} {t:aa},ux l=some t->∃xs:List Int,l=xs.map (.int .u8)/\iy xs=t
 | [],t,h=>by simp only[ux,aq]at h;subst h;exact⟨[],rfl,rfl⟩
 |v::r,t,h=>by
  unfold ux at h;split at h
  . rename_i q;cases q
  . rename_i x r' q;cases q;split at h
    . rename_i l hl;obtain rfl:=eH h;obtain⟨xs,Q,O⟩:=xU hl;exact⟨x::xs,by rw[Q];rfl,by rw[<- O];rfl⟩
    . cases h
  . cases h
theorem Fo{r:Row}{t:aa}(h:uy r=some t):∃xs:List Int,r.jQ=xs.map (.int .u8)/\iy xs=t:=by
 unfold uy at h;split at h
 . rename_i Y;cases h;exact⟨Y,rfl,rfl⟩
 . exact xU h
 . cases h
theorem Mx{xs:List Int}{l:List Value}(r:dZ E (xs.map (.int .u8)) l):l=xs.map (.int .u8):=by
 induction xs generalizing l with
 |nil=>exact r
 |cons x xs ih=>
  obtain⟨y,ys,r0,rs,rfl⟩:=r;simp only[dV]at r0;subst r0;rw[ih rs];rfl
theorem ki:∀t:aa,iy (fV t)=t
 | []=>rfl
 |b::r=>by
  have ih:=ki r;simp only[iy,fV,bP,List.map_map]at ih ⊢;rw[ih];simp
theorem Hg(xs:List Int):(iy xs).length=xs.length:=by simp[iy]
theorem lD{st xt el:TypeId}{ty:TypeId}{xd:TypeDesc}{i:TypeInfo}{z':Value}(hu:P.underlying st=some (.slice el))(I:P.underlying xt=some xd)(My:(∃y,xd= .slice y)\/xd= .string)
  (hi:P.info? el=some i) (hz:i.zero=some z') {base:Option Addr} {sLen sCap k:Nat} {x':Value} {old new:Array Value}
  (jx:∀w1:World,(Builtin.lenOf x').run P w1= .ok k w1) (og:∀w1:World,w1.heap=w.heap->(Builtin.firstCells i.size sLen (.slice base sLen sCap)).run P w1= .ok old w1)
  (qU:∀w1:World,w1.heap=w.heap->(Builtin.firstCells i.size k x').run P w1= .ok new w1)
  (oe:sCap<sLen+k) (hb:0<i.bytes) (qC:(sLen+k)*i.bytes<=281474976710):
  (Builtin.append_ #[st,xt] ty #[.slice base sLen sCap,x']).run P w=
   .ok (.slice (some ⟨w.heap.size,0,none⟩) (sLen+k) (grownCap w (sLen+k) sCap el))
    (w.drew.alloc (.cells (old++new++Builtin.zeroCells z'.cells (grownCap w (sLen+k) sCap el-(sLen+k))) el)):=by
 have atO:Builtin.nextslicecap (sLen+k) sCap*i.bytes<=281474976710656:=growslice_fits oe H;have Al:¬(sLen+k<=sCap):=by omega
 have U5:¬(281474976710656<Builtin.nextslicecap (sLen+k) sCap*i.bytes):=by omega
 have hb0:¬(i.bytes=0):=by omega
 have ho:=og w.drew rfl;have hn:=qU w.drew rfl;rcases My with⟨y,rfl⟩|rfl
 . simp[Builtin.append_,dP hu,dP I,sizeOf,typeInfo,zeroValue,hi,hz,jx,Al,U5,hb0,Question.forced,newRow,grownCap,ho,hn]
 . simp[Builtin.append_,dP hu,dP I,sizeOf,typeInfo,zeroValue,hi,hz,jx,Al,U5,hb0,Question.forced,newRow,grownCap,ho,hn]
theorem run_append_room{st xt el:TypeId}{ty:TypeId}{xd:TypeDesc}{i:TypeInfo}(hu:P.underlying st=some (.slice el))(I:P.underlying xt=some xd)(My:(∃y,xd= .slice y)\/xd= .string)
  (hi:P.info? el=some i) {base:Option Addr} {sLen sCap k:Nat} {x':Value} {new:Array Value}
  (jx:∀w1:World,(Builtin.lenOf x').run P w1= .ok k w1) (qU:(Builtin.firstCells i.size k x').run P w= .ok new w) (oe:sLen+k<=sCap):
  (Builtin.append_ #[st,xt] ty #[.slice base sLen sCap,x']).run P w=
   ((match base with|some a=>storeCells (a.add (sLen*i.size)) new.toList|none=>pure ()).run P w).andThen fun _ w'=>.ok (.slice base (sLen+k) sCap) w':=by
 rcases My with⟨y,rfl⟩|rfl
 . cases base<;>simp[Builtin.append_,dP hu,dP I,sizeOf,typeInfo,hi,jx,oe,qU]
 . cases base<;>simp[Builtin.append_,dP hu,dP I,sizeOf,typeInfo,hi,jx,oe,qU]
theorem Mz{eA:Array TypeId}{ty:TypeId}{args:ag}{dH:List Value}{r:cs}(g:Good E h w)(hn:E.ι n=none)(ra:dZ E args dH)
  (e:xF P eA args h n=some r) (ha:eA.size=2):jP P E h n w (do pure (.value (<- Builtin.append_ eA ty dH.toArray))) r:=by
 unfold xF at e;split at e
 . rename_i st xt s x Q O;obtain⟨X,_,rs,⟨x',_,rx,mS,rfl⟩,rfl⟩:=ra;simp only[dZ]at mS;subst mS;have mV:eA=#[st,xt]:=by
    apply Array.ext
    . simpa using ha
    . intro i q1 q2;have:i=0\/i=1:=by simp at q2;omega
      rcases this with rfl|rfl
      . rw[bf q1]at Q;simpa using Q
      . rw[bf q1]at O;simpa using O
   subst mV;split at e
   . rename_i el xd he I;split at e
     . rename_i i z We hi hz;have My:(∃y,xd= .slice y)\/xd= .string:=by
        unfold Ji at We;split at We
        . exact .inl ⟨_,rfl⟩
        . exact .inr rfl
        . cases We
       have hu:=G7 he;split at e
       . rename_i hq;obtain⟨q1,q2,q3⟩:=hq;obtain⟨z',Lh,He,hz3⟩:=Ei (P:=P) (E:=E) (w:=w) hi hz;have hzs:z'.cells.size=i.size:=by have:=eT (iD hz3);simp at this;omega
         split at e
         . rename_i k new ht;obtain⟨t1,t2,tsc,kz,t3,t4⟩:=Hf g rx ht;have R4:kz.size=k*i.size:=by have:=eT t4;simp at this;omega
           split at e
           . rename_i ahb;have Jm:=Row.Oh ahb tsc;split at e
             ·
              obtain⟨_,tM,rfl⟩:=rs;split at e
              . obtain rfl:=eH e;refine eu g (v':=.slice none 0 0) ?_ ⟨rfl,rfl,rfl⟩;rw[Sem.run_bind,run_append_room hu I My hi t1 (t3 w rfl) H];rfl
              . rename_i Ms;have W:0<k:=by
                 cases k with
                 |zero=>exact absurd rfl Ms
                 |succ _=>omega
                split at e
                . rename_i qC;cases ho:newObj h n (BR el x new)with
                  |none=>simp[ho]at e
                  |some p=>
                   obtain⟨h',n'⟩:=p;simp only[ho,aq]at e;subst e;obtain⟨r1,r2⟩:=Cb qC;have gm:=lD (w:=w) (ty:=ty) hu I My hi Lh (base:=none) (sLen:=0) (sCap:=0) (x':=x') (old:=#[]) t1 (fun _ _=>rfl) t3 H q2 (by simpa using r1);simp only[b7]at gm;have oe:k<=grownCap w k 0 el:=by simp only[grownCap,Question.cut];omega
                   have my:(#[]++kz++Builtin.zeroCells z'.cells (grownCap w k 0 el-k)).size=grownCap w k 0 el*i.size:=by
                    simp only[Array.size_append,mU,hzs,R4,Array.size_empty];rw[b7,<- dc];congr 1;omega
                   have Eg:lS E 0 new.jQ (#[]++kz++Builtin.zeroCells z'.cells (grownCap w k 0 el-k)):=by
                    intro j v q;obtain⟨v',p1,p2⟩:=gK t4 j v q;refine⟨v',?_,p2⟩;have hj:j<kz.size:=by have:=(aR.1 p1).1;simpa using this
                    rw[cj (by simp;omega)];simpa using p1
                   have hvs:dV (E.put n w.heap.size 0 (#[]++kz++Builtin.zeroCells z'.cells (grownCap w k 0 el-k)).size) (.eR (some (n,0)) k k i.size) (.slice (some ⟨w.heap.size,0,none⟩) k (grownCap w k 0 el)):=by
                    refine⟨w.heap.size,0,0,grownCap w k 0 el,Env.fP,fun _=>rfl,aK _,oe,?_,rfl⟩;rw[my];simp[Env.put]
                   have Z6:(do pure (.value (<- Builtin.append_ #[st,xt] ty #[.slice none 0 0,x'])):Sem Next).run P w= .ok (.value (.slice (some ⟨w.heap.size,0,none⟩) k (grownCap w k 0 el))) (w.drew.alloc (.cells (#[]++kz++Builtin.zeroCells z'.cells (grownCap w k 0 el-k)) el)):=by
                    simp only[Sem.run_bind,gm,Result.andThen_ok,Sem.run_pure]
                   unfold BR at ho;split at ho
                   . rename_i t;obtain⟨gL,rfl,rfl⟩:=kN ho;simp only[jz]at ht;split at ht
                     case isFalse=>cases ht
                     rename_i pW;obtain⟨rfl,rfl⟩:=ga ht;have nK:=nF.1 Eg;have ua:=iQ.alloc (n:=n) (ob:=.cells (#[]++kz++Builtin.zeroCells z'.cells (grownCap w t.length 0 el-t.length)) el) (o:=.tJ el false t) (w:=w.drew) (g.same rfl) hn gL (by
                      refine⟨_,_,fV t,heap_alloc_new,rfl,by simp[Env.put,jU],⟨.inl rfl,fun _=>rfl⟩,ki t,fun j x I=>?_⟩;have:=nK j x I;simpa using this)
                     exact⟨_,_,_,.inl Z6,hvs,(iQ.drew g).trans ua,fun m' sD=>Env.gU sD,.inr rfl⟩
                   . exact sN (r:=new) (w1:=w.drew) (c:=#[]++kz++Builtin.zeroCells z'.cells (grownCap w k 0 el-k)) (el:=el) g hn tsc ho rfl rfl rfl rfl Z6 Eg hvs
                . cases e
             ·
              rename_i len R _;obtain⟨⟨a,jO,vs,rfl,oe,hd,Mv,xS⟩,xT⟩:=rs;obtain⟨_,xT⟩:=xT rfl;simp only[Value.slice.injEq]at xT;obtain⟨_,_,hq⟩:=xT;have hq:=hq.symm;subst hq;split at e
              . obtain rfl:=eH e;refine eu g (v':=.slice a len len) ?_ ⟨⟨a,len,vs,rfl,oe,hd,Mv,xS⟩,fun _=>⟨a,rfl⟩⟩;rw[Sem.run_bind,run_append_room hu I My hi t1 (t3 w rfl) H];have Mv:kz.toList=[]:=by simp at t2;simpa[t2]using eT t4
                rw[Mv];cases a<;>rfl
              . rename_i Ms;have W:0<k:=by
                 cases k with
                 |zero=>exact absurd rfl Ms
                 |succ _=>omega
                split at e
                . rename_i qC;obtain⟨qC,hl⟩:=qC;cases ho:newObj h n ((Row.ds R).app new).Eb with
                  |none=>simp[ho]at e
                  |some p=>
                   obtain⟨h',n'⟩:=p;simp only[ho,aq]at e;subst e;obtain⟨r1,r2⟩:=Cb qC;obtain⟨t1',_,_,AX,t3',t4'⟩:=Hf (P:=P) (size:=i.size) (x:=.eB true len R) (x':=.slice a len len) g ⟨⟨a,len,vs,rfl,oe,hd,Mv,xS⟩,fun _=>⟨a,rfl⟩⟩ (k:=len) (new:=.ds R) (by simp only[jz,aG hl]);have gm:=lD (w:=w) (ty:=ty) hu I My hi Lh (base:=a) (sLen:=len) (sCap:=len) (x':=x') (old:=AX) t1 t3' t3 H q2 r1;have oe:len+k<=grownCap w (len+k) len el:=by simp only[grownCap,Question.cut];omega
                   have hol:AX.size=len*i.size:=by have:=eT t4';simp[Row.jQ,D.gh,hl]at this;omega
                   have my:(AX++kz++Builtin.zeroCells z'.cells (grownCap w (len+k) len el-(len+k))).size=grownCap w (len+k) len el*i.size:=by
                    simp only[Array.size_append,mU,hzs,R4,hol];rw[<- dc,<- dc];congr 1;omega
                   refine sN (r:=(Row.ds R).app new) (w1:=w.drew) (c:=AX++kz++Builtin.zeroCells z'.cells (grownCap w (len+k) len el-(len+k))) (el:=el) (v':=.slice (some ⟨w.heap.size,0,none⟩) (len+k) (grownCap w (len+k) len el)) g hn (Row.Jo (jc hd) tsc) ho rfl rfl rfl rfl ?_ ?_ ?_
                   . simp only[Sem.run_bind,gm,Result.andThen_ok,Sem.run_pure]
                   . refine xK (Row.Jn _ _) ?_;intro j v q;have q':=iK t4' t4;obtain⟨v',p1,p2⟩:=gK q' j v q;refine⟨v',?_,p2⟩;have hj:=(aR.1 p1).1;rw[cj (by simp at hj ⊢;omega)];rw[<- bM];simpa using p1
                   . refine⟨w.heap.size,0,0,grownCap w (len+k) len el,Env.fP,fun _=>rfl,aK _,oe,?_,rfl⟩;rw[my];simp[Env.put]
                . cases e
             ·
              rename_i m o len jO jv _;split at e
              . rename_i Z7;obtain⟨u1,u2,u3⟩:=Z7;subst u1;obtain⟨b,sh,o',gx,jB,c1,c2,c3,c4,rfl⟩:=rs;obtain⟨r1,r2⟩:=Cb u2;split at e
                ·
                 rename_i SC Ac s0 K;split at e
                 case h_2=>cases e
                 rename_i t ht;split at e
                 case isFalse=>cases e
                 rename_i aaT;obtain⟨⟨Z8,aaU⟩,⟨jx,xT⟩,DQ,ahd⟩:=aaT;obtain⟨b',sh',AW,c,fz,xs,rM,hsh,my,⟨DJ,Jz⟩,B8,mz⟩:=g.rel m _ K;rw[jB]at AW;cases AW;subst hsh;have DP:o'=0:=by have:=c1 aaU;omega
                 subst DP;obtain⟨ys,hy1,hy2⟩:=Fo ht;rw[hy1]at t4;have hnv:=Mx t4;have atS:xs.length=s0.length:=by rw[<- B8,Hg]
                 generalize hX:xs.take len=R5;have Jy:R5.length=len:=by rw[<- hX,bq];omega
                 have Z9:∀(j:Nat) (x:Int),R5[j]? =some x->c[j]? =some (.int .u8 x):=fun j x I=>by
                  rw[<- hX,bS]at I;split at I
                  . exact mz j x I
                  . cases I
                 have hyl:ys.length=k:=by have:=aI List.length hy1;simp at this;rw[<- this,t2,DQ];omega
                 cases ho:newObj (h.set m none) n (.tJ SC Ac (s0.take len++t))with
                 |none=>simp[ho]at e
                 |some p=>
                  obtain⟨h',n'⟩:=p;simp only[ho,aq]at e;subst e;subst ahd;obtain⟨gL,rfl,rfl⟩:=kN ho;have Wf:iy (R5++ys)=s0.take len++t:=by rw[<- hX,<- B8,<- hy2];simp[iy,List.map_take]
                  have htl:(s0.take len++t).length=len+k:=by rw[<- Wf,Hg,aE,Jy,hyl]
                  by_cases qC:len+k<=gx
                  ·
                   have Hh:0+(len+k)*i.size<=c.size:=by
                    have:(len+k)*i.size<=gx*i.size:=cI _ qC;omega
                   rw[DQ]at Hh c4;have Jt:∀v∈kz.toList,v.oneCell'=true:=by
                    intro v hv;rw[hnv]at hv;obtain⟨x,_,rfl⟩:=bN.1 hv;rfl
                   have Sv:kz.toList.length=k:=by rw[hnv,bG,hyl]
                   obtain⟨w',e1,e2,e3,e4,e5,e6,e7⟩:=tN (P:=P) (o:=len) kz.toList 0 w c rM (fun j Q O h3=>by
                    have hj:j<c.size:=by omega
                    cases Ac with
                    |true=>
                     have:=xT rfl;omega
                    |false=>have:=Jz rfl;omega) Jt H
                   have ug:len+kz.toList.length<=c.size:=by omega
                   have Bj:=iQ.move (n:=n) (X:=0) (o:=.tJ SC Ac (s0.take len++t)) g u3 gL hn ⟨_,K,rfl⟩ jB e3 e4 e5 e6 e7 (by
                    refine⟨_,fz,R5++ys,e2,rfl,by rw[Nat.add_zero,jG ug];simp[Env.put,my],⟨?_,Jz⟩,Wf,fun j x I=>?_⟩
                    . rw[htl];cases Ac with
                      |true=>have:=xT rfl;omega
                      |false=>exact .inl (Jz rfl)
                    . rw[Nat.add_zero,mQ ug];by_cases hj:j<len
                      . rw[bD H]at I;rw[aB H];exact Z9 j x I
                      . rw[cN H,Jy]at I;have SB:j-len<ys.length:=(aR.1 I).1;rw[aG H,hnv,bI,I];rfl)
                   refine⟨_,w',.slice (some ⟨b,0,none⟩) (len+k) gx,.inl ?_,?_,Bj,fun m' sD=>Env.gU sD,.inr rfl⟩
                   . rw[Sem.run_bind,run_append_room hu I My hi t1 (t3 w rfl) qC];simp only[Addr.jb,DQ,cU,b7,e1,Result.andThen_ok,Sem.run_pure]
                   . refine⟨b,0,0,gx,Env.fP,fun _=>rfl,aK _,qC,?_,rfl⟩;simpa[Env.put,DQ]using c4
                  ·
                   have v1:0+len*i.size<=c.size:=by
                    have:len*i.size<=gx*i.size:=cI _ H;omega
                   have og:(c.toList.drop 0).take (len*i.size)=R5.map (Value.int .u8):=by
                    rw[DQ,cU]at *;apply List.ext_getElem?;intro j;rw[bS,bI];by_cases hj:j<len
                    . rw[aG hj,cA];have SB:j<R5.length:=by omega
                      rw[au SB];have:=Z9 j _ (au SB);simpa using this
                    . rw[aB hj,cL H];rfl
                   have hf:∀w1:World,w1.heap=w.heap->(Builtin.firstCells i.size len (.slice (some ⟨b,0,none⟩) len gx)).run P w1= .ok ((c.toList.drop 0).take (len*i.size)).toArray w1:=fun w1 Jp=>by
                    simp only[Builtin.firstCells];exact run_loadCells (by rw[Jp];exact rM) v1
                   have gm:=lD (w:=w) (ty:=ty) hu I My hi Lh t1 hf t3 H q2 r1;have oe:len+k<=grownCap w (len+k) gx SC:=by simp only[grownCap,Question.cut];omega
                   have uf:=iQ.forget g u3;rw[og]at gm;have Dy:((R5.map (Value.int .u8)).toArray).size=len:=by simp[Jy]
                   have Sv:kz.size=k:=by rw[R4,DQ,cU]
                   generalize hC:((R5.map (Value.int .u8)).toArray++kz++Builtin.zeroCells z'.cells (grownCap w (len+k) gx SC-(len+k)))=be at gm;have hCs:be.size=grownCap w (len+k) gx SC*i.size:=by
                    rw[<- hC,Array.size_append,Array.size_append,mU,hzs,Sv,Dy,DQ,cU,cU];omega
                   have ua:=iQ.alloc (n:=n) (ob:=.cells be SC) (o:=.tJ SC Ac (s0.take len++t)) (w:=w.drew) (uf.good.same rfl) hn gL (by
                    refine⟨be,_,R5++ys,heap_alloc_new,rfl,by simp[Env.put,jU],⟨.inl rfl,fun _=>rfl⟩,Wf,fun j x I=>?_⟩;rw[<- hC];have NQ:j<(R5++ys).length:=(aR.1 I).1;rw[aE]at NQ;rw[cj (by rw[Array.size_append,Dy,Sv];omega)];by_cases hj:j<len
                    . rw[bD H]at I;rw[cj H];simp[I]
                    . rw[cN H]at I;rw[Array.getElem?_append_right H,Dy,<- bM,hnv,bI,<- Jy,I];rfl)
                   refine⟨_,_,.slice (some ⟨w.heap.size,0,none⟩) (len+k) (grownCap w (len+k) gx SC),.inl (by simp only[Sem.run_bind,gm,Result.andThen_ok,Sem.run_pure]),?_,(uf.trans (iQ.drew uf.good)).trans ua,fun m' sD=>Env.gU sD,.inr rfl⟩;refine⟨w.heap.size,0,0,grownCap w (len+k) gx SC,Env.fP,fun _=>rfl,aK _,oe,?_,rfl⟩;simp[Env.put,jU,hCs]
                . rename_i ob _ K;split at e
                  . rename_i rw0 Ca;obtain⟨b',sh',AW,q0⟩:=g.rel m _ K;obtain⟨⟨c,Z5,fz,rM,my,Jz,Eg⟩,V7⟩:=G3 Ca q0;rw[jB]at AW;cases AW;split at e
                    . rename_i old og;have aaW:old.sc/\o'+len*i.size<=c.size/\dZ E old.jQ ((c.toList.drop o').take (len*i.size)):=by
                       have hb0:len*i.size<=gx*i.size:=cI _ H;refine⟨?_,H,?_⟩
                       . split at og
                         . obtain rfl:=eH og;trivial
                         . exact Row.Og og V7
                       split at og
                       . rename_i Dx;obtain⟨_,rfl⟩:=Dx;obtain rfl:=eH og;simp[dZ,Row.jQ]
                       . rename_i Dx;rcases Nat.eq_zero_or_pos len with hlz|hl
                         . obtain⟨_,Oy⟩:=za (Row.Ff og);rw[Oy,hlz];simp[dZ]
                         obtain⟨kK,Oy⟩:=za (Row.Ff og);rw[Oy];have DP:o'=sh+o:=c1 H;subst DP;exact nJ Eg kK H
                      obtain⟨aaX,v1,v2⟩:=aaW;have hol:old.jQ.length=len*i.size:=by have:=eT v2;simp at this;omega
                      split at e
                      . rename_i Ms;obtain⟨_,hk1⟩:=Ms;obtain rfl:=eH e;subst hk1;refine eu g (v':=.slice (some ⟨b,o',none⟩) len gx) ?_ ⟨b,sh,o',gx,jB,c1,c2,c3,c4,rfl⟩;have Mv:kz.toList=[]:=by simp at R4;simp[R4]
                        rw[Sem.run_bind,run_append_room hu I My hi t1 (t3 w rfl) H,Mv];rfl
                      . rename_i Ms;cases ho:newObj (h.set m none) n (old.app new).Eb with
                        |none=>simp[ho]at e
                        |some p=>
                         obtain⟨h',n'⟩:=p;simp only[ho,aq]at e;subst e;obtain⟨gL,rfl,rfl⟩:=kN ho;by_cases qC:len+k<=gx
                         ·
                          have Hh:o'+(len+k)*i.size<=c.size:=by
                           have:(len+k)*i.size<=gx*i.size:=cI _ qC;omega
                          have atW:(len+k)*i.size=len*i.size+k*i.size:=dc _ _ _;have Jt:∀v∈kz.toList,v.oneCell'=true:=by
                           intro v hv;obtain⟨j,hj⟩:=List.getElem?_of_mem hv;have eO:j<new.jQ.length:=by rw[<- eT t4];exact(aR.1 hj).1
                           obtain⟨v',p1,p2⟩:=gK t4 j new.jQ[j] (au eO);rw[hj]at p1;cases p1;exact uB p2 (by rw[br]at Jm;exact Jm _ (bK eO))
                          obtain⟨w',e1,e2,e3,e4,e5,e6,e7⟩:=mR (P:=P) (o:=o'+len*i.size) kz.toList 0 w c rM Jz Jt (by simp;omega);have ug:o'+len*i.size+kz.toList.length<=c.size:=by simp;omega
                          have Bj:=iQ.move (n:=n) (X:=o') (o:=(old.app new).Eb) g u3 gL hn ⟨_,K,Oi Ca⟩ jB e3 e4 e5 e6 e7 (by
                           have kK:E.le (E.put n b o' (E.β b)):=Env.uD hn fun _ _ _ _ _=>rfl;refine xL ⟨_,Z5,fz,e2,by rw[jG (by simpa using ug)];simp[Env.put,my],by rw[jG (by simpa using ug)];exact Jz,?_⟩ (Row.Jo aaX tsc);refine xK (Row.Jn _ _) ?_;refine pA kK ?_;intro j v q;rw[mQ (by simpa using ug)];by_cases hj:j<len*i.size
                           . rw[bD H]at q;rw[aB H];obtain⟨v',p1,p2⟩:=gK v2 j v q;refine⟨v',?_,p2⟩;rw[bS,aG hj,bU]at p1;simpa using p1
                           . rw[cN H,hol]at q;have SB:j-len*i.size<new.jQ.length:=(aR.1 q).1;rw[aG (by simp;omega)];obtain⟨v',p1,p2⟩:=gK t4 _ v q;refine⟨v',?_,p2⟩;rw[<- p1];congr 1;omega)
                          refine⟨_,w',.slice (some ⟨b,o',none⟩) (len+k) gx,.inl ?_,?_,Bj,fun m' sD=>Env.gU sD,.inr rfl⟩
                          . rw[Sem.run_bind,run_append_room hu I My hi t1 (t3 w rfl) qC];simp only[Addr.jb,e1,Result.andThen_ok,Sem.run_pure]
                          . refine⟨b,o',o',gx,Env.fP,fun _=>rfl,aK _,qC,?_,rfl⟩;simpa[Env.put]using c4
                         ·
                          have hf:∀w1:World,w1.heap=w.heap->(Builtin.firstCells i.size len (.slice (some ⟨b,o',none⟩) len gx)).run P w1= .ok ((c.toList.drop o').take (len*i.size)).toArray w1:=fun w1 Jp=>by
                           simp only[Builtin.firstCells];exact run_loadCells (by rw[Jp];exact rM) v1
                          have gm:=lD (w:=w) (ty:=ty) hu I My hi Lh t1 hf t3 H q2 r1;have oe:len+k<=grownCap w (len+k) gx el:=by simp only[grownCap,Question.cut];omega
                          have uf:=iQ.forget g u3;have Dy:((c.toList.drop o').take (len*i.size)).toArray.size=len*i.size:=by simp;omega
                          have MA:(((c.toList.drop o').take (len*i.size)).toArray++kz++Builtin.zeroCells z'.cells (grownCap w (len+k) gx el-(len+k))).size=grownCap w (len+k) gx el*i.size:=by
                           rw[Array.size_append,Array.size_append,mU,hzs,R4,Dy];rw[<- dc,<- dc];congr 1;omega
                          obtain⟨E',w',v',p1,p2,p3,p4,p5⟩:=sN (P:=P) (r:=old.app new) (s:=(do pure (.value (<- Builtin.append_ #[st,xt] ty #[.slice (some ⟨b,o',none⟩) len gx,x'])):Sem Next))
                           (v:=.eR (some (n,0)) (len+k) (len+k) i.size) (w1:=w.drew) (c:=((c.toList.drop o').take (len*i.size)).toArray++kz++Builtin.zeroCells z'.cells (grownCap w (len+k) gx el-(len+k))) (el:=el)
                           (v':=.slice (some ⟨w.heap.size,0,none⟩) (len+k) (grownCap w (len+k) gx el)) uf.good hn (Row.Jo aaX tsc) ho rfl rfl rfl rfl
                           (by simp only[Sem.run_bind,gm,Result.andThen_ok,Sem.run_pure])
                           (by
                            refine xK (Row.Jn _ _) ?_;intro j v q;have q':=iK v2 t4;obtain⟨v',p1,p2⟩:=gK q' j v q;refine⟨v',?_,p2⟩;have hj:=(aR.1 p1).1;rw[cj (by simp at hj ⊢;omega)];rw[<- bM];simpa using p1)
                           (by
                            refine⟨w.heap.size,0,0,grownCap w (len+k) gx el,Env.fP,fun _=>rfl,aK _,oe,?_,rfl⟩;rw[MA];simp[Env.put])
                          exact⟨E',w',v',p1,p2,uf.trans p3,p4,p5⟩
                    . cases e
                  . cases e
                . cases e
              . cases e
             . cases e
           . cases e
         . cases e
       . cases e
     . cases e
   . cases e
 . cases e
end
theorem jl{kk:Option IntKind}{a b:D}(ha:gu kk a=true)(hb:gu kk b=true):gz a b=true↔a=b:=by
 cases kk with
 |none=>
  cases a<;>simp only[gu,aM]at ha;cases b<;>simp only[gu,aM]at hb;rename_i s t;simp only[gz,kA,cG,D.str.injEq]
 |some k=>
  cases a<;>simp only[gu,aM,aY]at ha;cases b<;>simp only[gu,aM,aY]at hb;subst ha;subst hb;simp[gz]
theorem Hi{φ:Nat->Option (Array Value)}{kd:TypeDesc}{kk:Option IntKind}{a b:D}{a' b':Value}(hd:kV kd kk=true)(ha:gu kk a=true)(hb:gu kk b=true)(ra:kS φ a a')(rb:kS φ b b'):
  Instr.sameNow kd a' b'=some (gz a b):=by
 cases kk with
 |none=>
  cases a<;>simp only[gu,aM]at ha;cases b<;>simp only[gu,aM]at hb;simp only[kS]at ra rb;subst ra;subst rb;cases kd<;>simp only[kV,aM]at hd;simp only[Instr.sameNow,gz];rw[rJ]
 |some k=>
  cases a<;>simp only[gu,aM,aY]at ha;cases b<;>simp only[gu,aM,aY]at hb;subst ha;subst hb;simp only[kS]at ra rb;subst ra;subst rb;cases kd<;>simp only[kV,aM]at hd;simp[Instr.sameNow,gz];rfl
theorem rN{φ:Nat->Option (Array Value)}{kd:TypeDesc}{kk:Option IntKind}{k:D}{k':Value}(hd:kV kd kk=true)(W:gu kk k=true)(rk:kS φ k k'):
  ∀(l:ae) (fK:List MapEntry) (i:Nat),kJ φ l fK->(∀e∈l,gu kk e.1=true)->
  match eZ k l with
  |none=>Instr.findNow kd k' fK i=some none/\(∀v,l9 k v l=l++[(k,v)])/\tZ k l=l/\k∉l.map (·.1)
  |some d=>∃j e',i<=j/\fK[j-i]? =some e'/\kS φ d e'.val/\kS φ k e'.key/\Instr.findNow kd k' fK i=some (some (j,e'.val))/\l[j-i]? =some (k,d)/\(∀v,l9 k v l=l.set (j-i) (k,v))/\tZ k l=l.eraseIdx (j-i)
 | [],fK,i,r,_=>by
   simp only[kJ]at r;subst r;simp only[eZ];exact⟨rfl,fun _=>rfl,rfl,by simp⟩
 |x::l,_,i,r,hl=>by
  obtain⟨y,ys,r1,r2,rs,rfl⟩:=r;have I:=hl x (by simp);have hs:=Hi hd W I rk r1;simp only[eZ];cases hq:gz k x.1 with
  |true=>
   have e:=(jl W I).1 hq;refine⟨i,y,aK _,by simp,r2,by rw[e];exact r1,?_,?_,fun v=>?_,?_⟩
   . simp only[Instr.findNow,hs,hq]
   . simp[e]
   . simp[l9,hq]
   . simp[tZ,hq]
  |false=>
   have ih:=rN hd W rk l ys (i+1) rs fun e he=>hl e (by simp[he]);simp only;cases G:eZ k l with
   |none=>
    rw[G]at ih;obtain⟨i1,i2,i3,i4⟩:=ih;refine⟨?_,fun v=>?_,?_,?_⟩
    . simp only[Instr.findNow,hs,hq,i1]
    . simp[l9,hq,i2]
    . simp[tZ,hq,i3]
    . intro h;simp only[bP,aD]at h;rcases h with q|q
      . rw[(jl W I).2 q]at hq;cases hq
      . exact i4 q
   |some d=>
    rw[G]at ih;obtain⟨j,e',j1,j2,j3,j4,j5,j6,j7,j8⟩:=ih;have hj:j-i=(j-(i+1))+1:=by omega
    refine⟨j,e',H,by rw[hj];simpa using j2,j3,j4,?_,by rw[hj];simpa using j6,fun v=>?_,?_⟩
    . simp only[Instr.findNow,hs,hq,j5]
    . rw[hj];simp[l9,hq,j7]
    . rw[hj];simp[tZ,hq,j8]
theorem zf{kk:Option IntKind}{k d:D}(W:gu kk k=true):∀{l:ae},(∀e∈l,gu kk e.1=true)->(l.map (·.1)).Nodup->(eZ k l=some d↔(k,d)∈l)
 | [],_,_=>by simp[eZ]
 |x::l,hl,hn=>by
  have I:=hl x (by simp);simp only[bP,List.nodup_cons]at hn;simp only[eZ];cases hq:gz k x.1 with
  |true=>
   have e:=(jl W I).1 hq;simp only[aq,aD];constructor
   . intro h;left;rw[e,<- h]
   . rintro(h|h)
     . rw[<- h]
     . exact absurd (bN.2 ⟨(k,d),h,e⟩) hn.1
  |false=>
   have e:k≠x.1:=fun h=>by rw[(jl W I).2 h]at hq;cases hq
   simp only[aD];rw[zf W (fun e he=>hl e (by simp[he])) hn.2];constructor
   . exact .inr
   . rintro(h|h)
     . exact absurd (by rw[<- h]) e
     . exact h
section
variable{kk:Option IntKind}{k:D}
theorem JA(W:gu kk k=true){l T:ae}(h:List.Perm l T)(hl:∀e∈T,gu kk e.1=true)(hn:(T.map (·.1)).Nodup):eZ k l=eZ k T:=by
 have hl':∀e∈l,gu kk e.1=true:=fun e he=>hl e (h.mem_iff.1 he);have n7:(l.map (·.1)).Nodup:=(h.map _).nodup_iff.2 hn;apply Option.ext;intro d;rw[zf W hl' n7,zf W hl hn,h.mem_iff]
theorem MB{v:D}(W:gu kk k=true){l T:ae}(h:List.Perm l T):(∀e∈T,gu kk e.1=true)->(T.map (·.1)).Nodup->List.Perm (l9 k v l) (l9 k v T):=by
 induction h with
 |nil=>intro _ _;exact .refl _
 |cons x p ih=>
  intro hl hn;simp only[l9];cases gz k x.1 with
  |true=>exact .cons _ p
  |false=>exact .cons _ (ih (fun e he=>hl e (by simp[he])) (by simp at hn;exact hn.2))
 |swap x y l=>
  intro hl hn;simp only[l9];have I:=hl x (by simp);have hy:=hl y (by simp);cases hqx:gz k x.1 with
  |true=>
   have ex:=(jl W I).1 hqx;cases hqy:gz k y.1 with
   |true=>
    have ey:=(jl W hy).1 hqy;simp[<- ex,<- ey]at hn
   |false=>exact .swap _ _ _
  |false=>
   cases hqy:gz k y.1 with
   |true=>exact .swap _ _ _
   |false=>exact .swap _ _ _
 |trans p q Oz OA=>
  intro hl hn;exact(Oz (fun e he=>hl e (q.mem_iff.1 he)) ((q.map _).nodup_iff.2 hn)).trans (OA hl hn)
theorem MC(W:gu kk k=true){l T:ae}(h:List.Perm l T):(∀e∈T,gu kk e.1=true)->(T.map (·.1)).Nodup->List.Perm (tZ k l) (tZ k T):=by
 induction h with
 |nil=>intro _ _;exact .refl _
 |cons x p ih=>
  intro hl hn;simp only[tZ];cases gz k x.1 with
  |true=>exact p
  |false=>exact .cons _ (ih (fun e he=>hl e (by simp[he])) (by simp at hn;exact hn.2))
 |swap x y l=>
  intro hl hn;simp only[tZ];have I:=hl x (by simp);have hy:=hl y (by simp);cases hqx:gz k x.1 with
  |true=>
   have ex:=(jl W I).1 hqx;cases hqy:gz k y.1 with
   |true=>
    have ey:=(jl W hy).1 hqy;simp[<- ex,<- ey]at hn
   |false=>exact .refl _
  |false=>
   cases hqy:gz k y.1 with
   |true=>exact .refl _
   |false=>exact .swap _ _ _
 |trans p q Oz OA=>
  intro hl hn;exact(Oz (fun e he=>hl e (q.mem_iff.1 he)) ((q.map _).nodup_iff.2 hn)).trans (OA hl hn)
end
theorem Ej{φ:Nat->Option (Array Value)}{f:MapEntry->MapEntry}{x:D×D}(hf:∀y,kS φ x.1 (f y).key/\kS φ x.2 (f y).val):∀(l:ae) (T:List MapEntry) (i:Nat),kJ φ l T->kJ φ (l.set i x) (T.modify i f)
 | [],_,i,r=>by simp only[kJ]at r;subst r;simp[kJ]
 |a::l,_,i,r=>by
  obtain⟨y,ys,r1,r2,rs,rfl⟩:=r;cases i with
  |zero=>exact⟨f y,ys,(hf y).1,(hf y).2,rs,by simp⟩
  |succ i=>exact⟨y,_,r1,r2,Ej hf l ys i rs,by simp⟩
theorem wE{φ:Nat->Option (Array Value)}:∀(l:ae) (T:List MapEntry) (x:D×D) (y:MapEntry),kJ φ l T->kS φ x.1 y.key->kS φ x.2 y.val->kJ φ (l++[x]) (T++[y])
 | [],_,x,y,r,a,b=>by simp only[kJ]at r;subst r;exact⟨y,[],a,b,rfl,rfl⟩
 |z::l,_,x,y,r,a,b=>by
  obtain⟨y0,ys,r1,r2,rs,rfl⟩:=r;exact⟨y0,_,r1,r2,wE l ys x y rs a b,rfl⟩
theorem Am{φ:Nat->Option (Array Value)}:∀(l:ae) (T:List MapEntry) (i:Nat),kJ φ l T->kJ φ (l.eraseIdx i) (T.eraseIdx i)
 | [],_,i,r=>by simp only[kJ]at r;subst r;simp[kJ]
 |a::l,_,i,r=>by
  obtain⟨y,ys,r1,r2,rs,rfl⟩:=r;cases i with
  |zero=>exact rs
  |succ i=>exact⟨y,_,r1,r2,Am l ys i rs,rfl⟩
theorem xV{φ:Nat->Option (Array Value)}:∀{l:ae} {T:List MapEntry},kJ φ l T->T.length=l.length
 | [],_,r=>by simp only[kJ]at r;subst r;rfl
 |_::_,_,r=>by obtain⟨y,ys,_,_,rs,rfl⟩:=r;simp[xV rs]
open Classical in
theorem zg{kk:Option IntKind}{k v:D}(W:gu kk k=true):∀(l:ae),(∀e∈l,gu kk e.1=true)->(l9 k v l).map (·.1)=if k∈l.map (·.1)then l.map (·.1)else l.map (·.1)++[k]
 | [],_=>by simp[l9]
 |x::l,hl=>by
  have I:=hl x (by simp);simp only[l9];cases hq:gz k x.1 with
  |true=>
   have e:=(jl W I).1 hq;simp[e]
  |false=>
   have e:k≠x.1:=fun h=>by rw[(jl W I).2 h]at hq;cases hq
   simp only[bP,zg W l fun e he=>hl e (by simp[he]),aD,e,false_or];split<;>simp
theorem Hj{k:D}:∀(l:ae),List.Sublist (tZ k l) l
 | []=>.slnil
 |x::l=>by
  simp only[tZ];cases gz k x.1 with
  |true=>exact List.sublist_cons_self _ _
  |false=>exact .cons_cons _ (Hj l)
open Classical in
section
variable{φ:Nat->Option (Array Value)}{kd:TypeDesc}{kk:Option IntKind}{T:ae}{fK:Array MapEntry}{eS:Nat}{k:D}{k':Value}
theorem jT.tO{v:D}{k' v':Value}(r:jT φ kk T fK.toList eS)(hd:kV kd kk=true)(W:gu kk k=true)(rk:kS φ k k')(rv:kS φ v v'):
  (Instr.findNow kd k' fK.toList 0=some none/\jT φ kk (l9 k v T) (fK.push { key:=k',val:=v',born:=eS }).toList (eS+1)) \/
  ∃(j:Nat) (e':MapEntry),Instr.findNow kd k' fK.toList 0=some (some (j,e'.val))/\fK[j]? =some e'/\kS φ k e'.key/\jT φ kk (l9 k v T) (fK.modify j fun e=>{ e with key:=k',val:=v' }).toList eS:=by
 obtain⟨l,hp,hr⟩:=r.row;have hl:∀e∈l,gu kk e.1=true:=fun e he=>r.kind e (hp.mem_iff.1 he);have U6:=MB (v:=v) W hp r.kind r.keys;have Hl:((l9 k v T).map (·.1)).Nodup:=by
  rw[zg W T r.kind];split
  . exact r.keys
  . rename_i h;exact List.nodup_append.2 ⟨r.keys,by simp,fun a ha b hb=>by simp at hb;subst hb;intro q;subst q;exact h ha⟩
 have Ho:∀e∈l9 k v T,gu kk e.1=true:=by
  intro e he;have:e.1∈(l9 k v T).map (·.1):=bN.2 ⟨e,he,rfl⟩;rw[zg W T r.kind]at this;have base:e.1∈T.map (·.1)->gu kk e.1=true:=fun h=>by obtain⟨x,I,q⟩:=bN.1 h;rw[<- q];exact r.kind x I
  split at this
  . exact base this
  . rcases bg.1 this with h|h
    . exact base h
    . simp at h;rw[h];exact W
 have hf:=rN hd W rk l fK.toList 0 hr hl;cases G:eZ k l with
 |none=>
  rw[G]at hf;obtain⟨Q,O,_,_⟩:=hf;refine .inl ⟨Q,⟨⟨_,U6,?_⟩,Hl,Ho,?_,?_⟩⟩
  . rw[O,Array.toList_push];exact wE l fK.toList (k,v) _ hr rk rv
  . intro e he;rw[Array.toList_push]at he;rcases bg.1 he with q|q
    . have:=r.old e q;omega
    . simp at q;subst q;simp
  . rw[Array.toList_push,bQ];refine List.nodup_append.2 ⟨r.born,by simp,fun a ha b hb=>?_⟩;simp at hb;subst hb;obtain⟨e,he,q⟩:=bN.1 ha;have:=r.old e he;omega
 |some d=>
  rw[G]at hf;obtain⟨j,e',_,O,h3,h4,h5,h6,h7,_⟩:=hf;simp only[Nat.sub_zero]at O h6 h7;have Li:(fK.modify j fun e=>{ e with key:=k',val:=v' }).toList.map (·.born)=fK.toList.map (·.born):=by
   rw[Array.toList_modify];apply List.ext_getElem?;intro i;simp only[bI,List.getElem?_modify];by_cases OB:j=i
   . simp[OB];cases fK.toList[i]? <;>rfl
   . simp[OB]
  refine .inr ⟨j,e',h5,by rw[<- bM];exact O,h4,⟨⟨_,U6,?_⟩,Hl,Ho,?_,?_⟩⟩
  . rw[h7,Array.toList_modify];exact Ej (f:=fun e=>{ e with key:=k',val:=v' }) (fun y=>⟨rk,rv⟩) l fK.toList j hr
  . intro e he;have:e.born∈(fK.modify j fun e=>{ e with key:=k',val:=v' }).toList.map (·.born):=bN.2 ⟨e,he,rfl⟩;rw[Li]at this;obtain⟨e0,he0,q⟩:=bN.1 this;rw[<- q];exact r.old e0 he0
  . rw[Li];exact r.born
theorem jT.del(r:jT φ kk T fK.toList eS)(hd:kV kd kk=true)(W:gu kk k=true)(rk:kS φ k k'):
  (Instr.findNow kd k' fK.toList 0=some none/\jT φ kk (tZ k T) fK.toList eS) \/
  ∃(j:Nat) (e':MapEntry),Instr.findNow kd k' fK.toList 0=some (some (j,e'.val))/\jT φ kk (tZ k T) (fK.eraseIdxIfInBounds j).toList eS:=by
 obtain⟨l,hp,hr⟩:=r.row;have hl:∀e∈l,gu kk e.1=true:=fun e he=>r.kind e (hp.mem_iff.1 he);have U6:=MC W hp r.kind r.keys;have qw:List.Sublist (tZ k T) T:=Hj T;have Hl:((tZ k T).map (·.1)).Nodup:=r.keys.sublist (qw.map _);have Ho:∀e∈tZ k T,gu kk e.1=true:=fun e he=>r.kind e (qw.mem he);have hf:=rN hd W rk l fK.toList 0 hr hl;cases G:eZ k l with
 |none=>
  rw[G]at hf;obtain⟨Q,_,h3,_⟩:=hf;exact .inl ⟨Q,⟨⟨l,by rw[h3]at U6;exact U6,hr⟩,Hl,Ho,r.old,r.born⟩⟩
 |some d=>
  rw[G]at hf;obtain⟨j,e',_,O,_,_,h5,_,_,h8⟩:=hf;simp only[Nat.sub_zero]at O h8;have ht:(fK.eraseIdxIfInBounds j).toList=fK.toList.eraseIdx j:=Array.toList_eraseIdxIfInBounds;refine .inr ⟨j,e',h5,⟨⟨_,U6,?_⟩,Hl,Ho,?_,?_⟩⟩
  . rw[h8,ht];exact Am l fK.toList j hr
  . intro e he;rw[ht]at he;exact r.old e ((List.eraseIdx_sublist _ _).mem he)
  . rw[ht];exact r.born.sublist ((List.eraseIdx_sublist _ _).map _)
theorem jT.look(r:jT φ kk T fK.toList eS)(hd:kV kd kk=true)(W:gu kk k=true)(rk:kS φ k k'):
  match eZ k T with
  |none=>Instr.findNow kd k' fK.toList 0=some none
  |some d=>∃j v',Instr.findNow kd k' fK.toList 0=some (some (j,v'))/\kS φ d v':=by
 obtain⟨l,hp,hr⟩:=r.row;have hl:∀e∈l,gu kk e.1=true:=fun e he=>r.kind e (hp.mem_iff.1 he);have hf:=rN hd W rk l fK.toList 0 hr hl;rw[<- JA W hp r.kind r.keys];cases G:eZ k l with
 |none=>rw[G]at hf;exact hf.1
 |some d=>
  rw[G]at hf;obtain⟨j,e',_,_,h3,_,h5,_⟩:=hf;exact⟨j,e'.val,h5,h3⟩
end
theorem jT.length{φ:Nat->Option (Array Value)}{kk:Option IntKind}{T:ae}{fK:List MapEntry}{eS:Nat}(r:jT φ kk T fK eS):fK.length=T.length:=by
 obtain⟨l,hp,hr⟩:=r.row;rw[xV hr,hp.length_eq]
theorem pE{E:Env}{x:V}{d:D}{x':Value}(e:keyOf x=some d)(r:dV E x x'):kS E.φ d x':=by
 unfold keyOf at e;split at e<;>first|(cases e;exact r)|cases e
theorem xW{x:V}{d:D}{kd:TypeDesc}{kk:Option IntKind}(e:keyOf x=some d)(hd:kV kd kk=true)(W:gu kk d=true):BQ kd x=true:=by
 unfold keyOf at e;split at e
 . cases e;cases kk<;>simp only[gu,aM]at W;cases kd<;>simp only[kV,aM]at hd;rfl
 . cases e;cases kk<;>simp only[gu,aM]at W;cases kd<;>simp only[kV,aM]at hd;rfl
 . cases e
section
variable{P:Program}{E:Env}{h:J h2}{n:Nat}{w:World}
theorem fG{b:Nat}{o:Obj}(hb:w.heap[b]? =some o)(hn:∀c el fz,o≠ .cells c el fz):(getObj b).run P w= .ok o w:=by
 simp only[getObj,Sem.run,hb]
theorem kj{b:Nat}{o o':Obj}(hb:w.heap[b]? =some o)(hn:∀c el fz,o≠ .cells c el fz):(setObj b o').run P w= .ok () { w with heap:=w.heap.setIfInBounds b o' }:=by
 simp only[setObj,Sem.run,hb]
theorem xX:∀{xs:List (V×V×Nat)} {ys:List MapEntry},kI E xs ys->ys.length=xs.length
 | [],_,r=>by simp only[kI]at r;subst r;rfl
 |_::_,_,r=>by obtain⟨y,ys,_,_,_,rs,rfl⟩:=r;simp[xX rs]
theorem xY{m:Nat}{T:List (V×V×Nat)}{eS:Nat}(g:Good E h w)(K:h.get m=some (.map T eS)):
  ∃b fK,E.ι m=some (b,0)/\w.heap[b]? =some (.map fK eS)/\kI E T fK.toList:=by
 obtain⟨b,s,hi,hs,fK,Q,O⟩:=g.rel m _ K;subst hs;exact⟨b,fK,hi,Q,O⟩
theorem xZ{m:Nat}{kk:Option IntKind}{T:ae}(g:Good E h w)(K:h.get m=some (.gl kk T)):
  ∃b fK eS,E.ι m=some (b,0)/\w.heap[b]? =some (.map fK eS)/\jT E.φ kk T fK.toList eS:=by
 obtain⟨b,s,hi,hs,fK,eS,Q,O⟩:=g.rel m _ K;subst hs;exact⟨b,fK,eS,hi,Q,O⟩
theorem Wg{eA:Array TypeId}{ty:TypeId}{args:ag}{dH:List Value}{v:V}(g:Good E h w)(ra:dZ E args dH)(e:Mp P eA args h=some v):
  jP P E h n w (do pure (.value (<- Builtin.len_ eA ty dH.toArray))) (.val v h n):=by
 unfold Mp at e;split at e
 . rename_i t x Q;obtain⟨x',_,rx,mS,rfl⟩:=ra;simp only[dZ]at mS;subst mS;split at e
   . rename_i s hu;obtain rfl:=eH e;simp only[dV]at rx;subst rx;refine eu g (v':=.int .i64 s.length) ?_ rfl;have my:(⟨s.toArray⟩:ByteArray).size=s.length:=by show s.toArray.size=_;simp
     simp[Builtin.len_,Q,dP hu,goInt,my]
   . rename_i _ k _ hu;obtain rfl:=eH e;refine eu g (v':=.int .i64 k) ?_ rfl;simp[Builtin.len_,Q,dP hu,goInt]
   . rename_i a len jO jv hu;obtain rfl:=eH e;refine eu g (v':=.int .i64 len) ?_ rfl;cases a with
     |none=>obtain⟨rfl,rfl,rfl⟩:=rx;simp[Builtin.len_,Q,dP hu,goInt]
     |some a=>obtain⟨_,_,_,_,_,_,_,_,_,rfl⟩:=rx;simp[Builtin.len_,Q,dP hu,goInt]
   . rename_i f len R hu;obtain rfl:=eH e;refine eu g (v':=.int .i64 len) ?_ rfl;obtain⟨⟨_,_,_,rfl,_⟩,_⟩:=rx;simp[Builtin.len_,Q,dP hu,goInt]
   . rename_i hu;obtain rfl:=eH e;simp only[dV]at rx;subst rx;refine eu g (v':=.int .i64 0) ?_ rfl;simp[Builtin.len_,Q,dP hu,goInt]
   . rename_i m hu;split at e
     . rename_i T eS K;obtain rfl:=eH e;obtain⟨b,fK,hi,hb,Bk⟩:=xY g K;obtain⟨b',jB,rfl⟩:=rx;rw[hi]at jB;cases jB;refine eu g (v':=.int .i64 T.length) ?_ rfl;have hl:=xX Bk;simp only[Array.length_toList]at hl;simp[Builtin.len_,Q,dP hu,goInt,fG (P:=P) hb (by intro _ _ _ q;cases q),hl]
     . rename_i kk T K;obtain rfl:=eH e;obtain⟨b,fK,eS,hi,hb,Bk⟩:=xZ g K;obtain⟨b',jB,rfl⟩:=rx;rw[hi]at jB;cases jB;refine eu g (v':=.int .i64 T.length) ?_ rfl;have hl:=Bk.length;simp only[Array.length_toList]at hl;simp[Builtin.len_,Q,dP hu,goInt,fG (P:=P) hb (by intro _ _ _ q;cases q),hl]
     . cases e
   . cases e
 . cases e
theorem Hp:∀(xs:ag) (x v:V) (x':Value) (yQ:List Value),dV E x x'->dZ E xs yQ->GW x xs=some v->
  ∃v',(yQ.foldlM Builtin.max2 x').run P w= .ok v' w/\dV E v v'
 | [],x,v,x',yQ,rx,rs,e=>by
   simp only[dZ]at rs;subst rs;have:v=x:=by cases x<;>simp[GW]at e<;>exact e.symm
   subst this;exact⟨x',rfl,rx⟩
 |y::ys,x,v,x',_,rx,rs,e=>by
  obtain⟨y',Ee,ry,Wb,rfl⟩:=rs;cases x with
  |int k a=>cases y with
   |int j b=>
    simp only[GW]at e;simp only[dV]at rx ry;subst rx;subst ry;obtain⟨v',Q,O⟩:=Hp ys (.int k (if b>a then b else a)) v (.int k (if b>a then b else a)) Ee rfl Wb e;refine⟨v',?_,O⟩;simp only[List.foldlM_cons,Sem.run_bind,Builtin.max2,Sem.run_pure,Result.andThen_ok];exact Q
   |_=>simp[GW]at e
  |_=>simp[GW]at e
theorem Hq:∀(xs:ag) (x v:V) (x':Value) (yQ:List Value),dV E x x'->dZ E xs yQ->GX x xs=some v->
  ∃v',(yQ.foldlM Builtin.min2 x').run P w= .ok v' w/\dV E v v'
 | [],x,v,x',yQ,rx,rs,e=>by
   simp only[dZ]at rs;subst rs;have:v=x:=by cases x<;>simp[GX]at e<;>exact e.symm
   subst this;exact⟨x',rfl,rx⟩
 |y::ys,x,v,x',_,rx,rs,e=>by
  obtain⟨y',Ee,ry,Wb,rfl⟩:=rs;cases x with
  |int k a=>cases y with
   |int j b=>
    simp only[GX]at e;simp only[dV]at rx ry;subst rx;subst ry;obtain⟨v',Q,O⟩:=Hq ys (.int k (if b<a then b else a)) v (.int k (if b<a then b else a)) Ee rfl Wb e;refine⟨v',?_,O⟩;simp only[List.foldlM_cons,Sem.run_bind,Builtin.min2,Sem.run_pure,Result.andThen_ok];exact Q
   |_=>simp[GX]at e
  |_=>simp[GX]at e
section
variable{eA:Array TypeId}{ty:TypeId}
theorem Wh{x v:V}{xs:ag}{dH:List Value}(g:Good E h w)(ra:dZ E (x::xs) dH)(e:GW x xs=some v):
  jP P E h n w (do pure (.value (<- Builtin.max_ eA ty dH.toArray))) (.val v h n):=by
 obtain⟨x',yQ,rx,Wa,rfl⟩:=ra;obtain⟨v',Q,O⟩:=Hp (P:=P) (w:=w) xs x v x' yQ rx Wa e;refine eu g (v':=v') ?_ O;simp only[Builtin.max_,Sem.run_bind,Q,Result.andThen_ok,Sem.run_pure]
theorem Wi{x v:V}{xs:ag}{dH:List Value}(g:Good E h w)(ra:dZ E (x::xs) dH)(e:GX x xs=some v):
  jP P E h n w (do pure (.value (<- Builtin.min_ eA ty dH.toArray))) (.val v h n):=by
 obtain⟨x',yQ,rx,Wa,rfl⟩:=ra;obtain⟨v',Q,O⟩:=Hq (P:=P) (w:=w) xs x v x' yQ rx Wa e;refine eu g (v':=v') ?_ O;simp only[Builtin.min_,Sem.run_bind,Q,Result.andThen_ok,Sem.run_pure]
end
theorem MD{kd:TypeDesc}{a b:V}{a' b':Value}{r:Bool}(ra:dV E a a')(rb:dV E b b')(e:xD kd a b=some r):Instr.sameNow kd a' b'=some r:=by
 unfold xD at e;split at e
 . simp only[dV]at ra rb;subst ra;subst rb;split at e
   . rename_i W;obtain rfl:=eH e;simp[Instr.sameNow,W]
   . cases e
 . simp only[dV]at ra rb;subst ra;subst rb;obtain rfl:=eH e;simp only[Instr.sameNow];rw[rJ]
 . cases e
theorem vu{kd:TypeDesc}{k:V}{k':Value}(rk:dV E k k'):∀(T:List (V×V×Nat)) (fK:List MapEntry) (i:Nat) (r:Option (Nat×V×V×Nat)),kI E T fK->uv kd k T i=some r->
  match r with
  |none=>Instr.findNow kd k' fK i=some none
  |some (j,e)=>∃e',i<=j/\T[j-i]? =some e/\fK[j-i]? =some e'/\xD kd k e.1=some true/\dV E e.1 e'.key/\dV E e.2.1 e'.val/\e'.born=e.2.2/\Instr.findNow kd k' fK i=some (some (j,e'.val))
 | [],fK,i,r,rs,e=>by
   simp only[kI]at rs;subst rs;simp only[uv,aq]at e;subst e;simp[Instr.findNow]
 |x::xs,_,i,r,rs,e=>by
  obtain⟨y,ys,r1,r2,r3,rs,rfl⟩:=rs;simp only[uv]at e;cases W:xD kd k x.1 with
  |none=>simp[W]at e
  |some b=>
   have hs:=MD rk r1 W;cases b with
   |true=>
    simp only[W,aq]at e;subst e;exact⟨y,aK _,by simp,by simp,W,r1,r2,r3,by simp[Instr.findNow,hs]⟩
   |false=>
    simp only[W]at e;have ih:=vu rk xs ys (i+1) r rs e;cases r with
    |none=>simp only at ih ⊢;simp[Instr.findNow,hs,ih]
    |some q=>
     obtain⟨j,e0⟩:=q;obtain⟨e',a1,a2,a3,a4,a5,a6,a7,a8⟩:=ih;have hj:j-i=(j-(i+1))+1:=by omega
     exact⟨e',H,by rw[hj];simpa using a2,by rw[hj];simpa using a3,a4,a5,a6,a7,by simp[Instr.findNow,hs,a8]⟩
section
variable{kt:TypeId}{kd:TypeDesc}{k:V}{k':Value}{b:Bool}
theorem gO{fK:List MapEntry}{r:Option (Nat×Value)}(hu:P.underlying kt=some kd)(e:Instr.findNow kd k' fK 0=some r):
  (Instr.findKey kt k' fK).run P w= .ok r w:=by
 simp[Instr.findKey,dP hu,e]
theorem DR(d:Nat)(hu:P.underlying kt=some kd)(rk:dV E k k')(e:BQ kd k=true):(Instr.checkKey b (d+1) kt k').run P w= .ok () w:=by
 unfold BQ at e;split at e
 . simp only[dV]at rk;subst rk;simp only[Instr.checkKey,Sem.run_bind,dP hu,Result.andThen_ok];rfl
 . simp only[dV]at rk;subst rk;simp only[Instr.checkKey,Sem.run_bind,dP hu,Result.andThen_ok];rfl
 . cases e
theorem iL(hu:P.underlying kt=some kd)(rk:dV E k k')(e:BQ kd k=true):(Instr.checkKey b 10000 kt k').run P w= .ok () w:=
 DR 9999 hu rk e
end
theorem ME{t:TypeId}{x k v:V}{ok:Bool}{x' k':Value}(g:Good E h w)(rx:dV E x x')(rk:dV E k k')(e:vk P t h x k ok=some v):
  jP P E h n w (do pure (.value (<- Instr.lookup t x' k' ok))) (.val v h n):=by
 unfold vk at e;split at e
 . rename_i kt et hu;split at e
   . rename_i kd z W hz;split at e
     . rename_i r kk T K;split at e
       . rename_i kq Fp;split at e
         . rename_i hb;simp only[ay]at hb;simp only[aq]at e;obtain⟨z',Lh,He,_⟩:=kZ (w:=w) E hz;obtain⟨b,fK,eS,hi,rM,hr⟩:=xZ g K;obtain⟨b',jB,rfl⟩:=rx;rw[hi]at jB;cases jB;have x3:=fG (P:=P) rM (by intro _ _ _ q;cases q);have I8:=xW Fp hb.1 hb.2;have I9:=iL (P:=P) (w:=w) (b:=fK.isEmpty) W rk I8;have hlk:=hr.look hb.1 hb.2 (pE Fp rk);cases G:eZ kq T with
           |none=>
            rw[G]at hlk e;have gm:(Instr.lookup t (.map (some b)) k' ok).run P w= .ok (if ok then .tuple #[z',.bool false]else z') w:=by
             simp only[Instr.lookup,Sem.run_bind,dP hu,Result.andThen_ok,Sem.run_pure,x3,I9,gO W hlk,Lh]
            subst e;refine eu g (v':=if ok then .tuple #[z',.bool false]else z') (by rw[Sem.run_bind,gm];rfl) ?_;cases ok with
            |true=>exact⟨[z',.bool false],⟨z',_,He,⟨.bool false,[],rfl,rfl,rfl⟩,rfl⟩,rfl⟩
            |false=>exact He
           |some d=>
            rw[G]at hlk e;obtain⟨j,v',q1,q2⟩:=hlk;have gm:(Instr.lookup t (.map (some b)) k' ok).run P w= .ok (if ok then .tuple #[v',.bool true]else v') w:=by
             simp only[Instr.lookup,Sem.run_bind,dP hu,Result.andThen_ok,Sem.run_pure,x3,I9,gO W q1]
            subst e;refine eu g (v':=if ok then .tuple #[v',.bool true]else v') (by rw[Sem.run_bind,gm];rfl) ?_;cases ok with
            |true=>exact⟨[v',.bool true],⟨v',_,rE d v' q2,⟨.bool true,[],rfl,rfl,rfl⟩,rfl⟩,rfl⟩
            |false=>exact rE d v' q2
         . cases e
       . cases e
     rename_i x _ _ hnd;split at e
     . rename_i I8;obtain⟨z',Lh,He,_⟩:=kZ (w:=w) E hz;have qv:∀(T:List (V×V×Nat)) (fK:Array MapEntry),kI E T fK.toList->(match uv kd k T 0 with
         |some (some (_,_,v,_))=>some (if ok then V.gw [v,.bool true]else v)
         |some none=>some (if ok then V.gw [z,.bool false]else z)
         |none=>none)=some v->
         ((Instr.findKey kt k' fK.toList).run P w= .ok none w/\dV E v (if ok then .tuple #[z',.bool false]else z')) \/
         ∃j v',(Instr.findKey kt k' fK.toList).run P w= .ok (some (j,v')) w/\dV E v (if ok then .tuple #[v',.bool true]else v'):=by
        intro T fK Bk e;cases hf:uv kd k T 0 with
        |none=>simp[hf]at e
        |some r=>
         have hr:=vu rk T fK.toList 0 r Bk hf;cases r with
         |none=>
          simp only[hf,aq]at e;subst e;refine .inl ⟨gO W hr,?_⟩;cases ok with
          |true=>exact⟨[z',.bool false],⟨z',_,He,⟨.bool false,[],rfl,rfl,rfl⟩,rfl⟩,rfl⟩
          |false=>exact He
         |some q=>
          obtain⟨j,k0,v0,F⟩:=q;simp only[hf,aq]at e;subst e;obtain⟨e',_,_,_,_,_,a6,_,a8⟩:=hr;refine .inr ⟨j,e'.val,gO W a8,?_⟩;cases ok with
          |true=>exact⟨[e'.val,.bool true],⟨e'.val,_,a6,⟨.bool true,[],rfl,rfl,rfl⟩,rfl⟩,rfl⟩
          |false=>exact a6
       cases x with
       |map m=>
        cases m with
        |none=>
         simp only at e;simp only[dV]at rx;subst rx;rcases qv [] #[] (by simp[kI]) e with⟨m1,m3⟩|⟨j,v',m1,m3⟩
         . refine eu g ?_ m3;simp only[Instr.lookup,Sem.run_bind,dP hu,Result.andThen_ok,Sem.run_pure,iL (b:=(#[]:Array MapEntry).isEmpty) W rk I8,m1,Lh]
         . refine eu g ?_ m3;simp only[Instr.lookup,Sem.run_bind,dP hu,Result.andThen_ok,Sem.run_pure,iL (b:=(#[]:Array MapEntry).isEmpty) W rk I8,m1]
        |some m=>
         simp only at e;cases K:h.get m with
         |none=>simp[K]at e
         |some o=>
          cases o with
          |map T eS=>
           simp only[K]at e;obtain⟨b,fK,hi,hb,Bk⟩:=xY g K;obtain⟨b',jB,rfl⟩:=rx;rw[hi]at jB;cases jB;have x3:=fG (P:=P) hb (by intro _ _ _ q;cases q);rcases qv T fK Bk e with⟨m1,m3⟩|⟨j,v',m1,m3⟩
           . refine eu g ?_ m3;simp only[Instr.lookup,Sem.run_bind,dP hu,Result.andThen_ok,Sem.run_pure,x3,iL (b:=fK.isEmpty) W rk I8,m1,Lh]
           . refine eu g ?_ m3;simp only[Instr.lookup,Sem.run_bind,dP hu,Result.andThen_ok,Sem.run_pure,x3,iL (b:=fK.isEmpty) W rk I8,m1]
          |_=>simp[K]at e
       |_=>simp at e
     . cases e
   . cases e
 . cases e
theorem pg{f:V×V×Nat->V×V×Nat}{f':MapEntry->MapEntry}(hf:∀x y,dV E x.1 y.key->dV E x.2.1 y.val->y.born=x.2.2->dV E (f x).1 (f' y).key/\dV E (f x).2.1 (f' y).val/\(f' y).born=(f x).2.2):
  ∀(xs:List (V×V×Nat)) (ys:List MapEntry) (i:Nat),kI E xs ys->kI E (iB xs i f) (ys.modify i f')
 | [],_,i,r=>by simp only[kI]at r;subst r;simp[iB,kI]
 |x::xs,_,i,r=>by
  obtain⟨y,ys,a,b,c,rs,rfl⟩:=r;cases i with
  |zero=>obtain⟨p,q,s⟩:=hf x y a b c;exact⟨f' y,ys,p,q,s,rs,by simp⟩
  |succ i=>exact⟨y,_,a,b,c,pg hf xs ys i rs,by simp⟩
theorem wF:∀(xs:List (V×V×Nat)) (ys:List MapEntry) (x:V×V×Nat) (y:MapEntry),kI E xs ys->dV E x.1 y.key->dV E x.2.1 y.val->y.born=x.2.2->kI E (xs++[x]) (ys++[y])
 | [],_,x,y,r,a,b,c=>by simp only[kI]at r;subst r;exact⟨y,[],a,b,c,rfl,rfl⟩
 |z::zs,_,x,y,r,a,b,c=>by
  obtain⟨y0,ys,a0,b0,c0,rs,rfl⟩:=r;exact⟨y0,_,a0,b0,c0,wF zs ys x y rs a b c,rfl⟩
theorem x4{m b eS clock':Nat}{T yR:List (V×V×Nat)}{fK uc:Array MapEntry}(g:Good E h w)(gL:m<fZ)(K:h.get m=some (.map T eS))(hi:E.ι m=some (b,0))(hb:w.heap[b]? =some (.map fK eS))
  (Bk:kI E yR uc.toList):iQ E h w E (h.set m (some (.map yR clock'))) { w with heap:=w.heap.setIfInBounds b (.map uc clock') }:=by
 have eO:b<w.heap.size:=(aW.1 hb).1;refine iQ.write g gL ⟨_,K,rfl⟩ hi (by simp) rfl rfl rfl (fun x I=>?_) ⟨rfl,uc,?_,Bk⟩
 . simp[Ne.symm I]
 . simp[eO]
section
variable{m b eS clock':Nat}
theorem x5{kk:Option IntKind}{T yR:ae}{fK uc:Array MapEntry}(g:Good E h w)(gL:m<fZ)(K:h.get m=some (.gl kk T))(hi:E.ι m=some (b,0))(hb:w.heap[b]? =some (.map fK eS))
  (Bk:jT E.φ kk yR uc.toList clock'):iQ E h w E (h.set m (some (.gl kk yR))) { w with heap:=w.heap.setIfInBounds b (.map uc clock') }:=by
 have eO:b<w.heap.size:=(aW.1 hb).1;refine iQ.write g gL ⟨_,K,rfl⟩ hi (by simp) rfl rfl rfl (fun x I=>?_) ⟨rfl,uc,clock',?_,Bk⟩
 . simp[Ne.symm I]
 . simp[eO]
theorem Cc{kd:TypeDesc}{a b:V}{a' b':Value}(ra:dV E a a')(rb:dV E b b')(e:xD kd a b=some true):(Instr.keyThatStays b' a').run P w= .ok a' w:=by
 have:Instr.sameBits 10000 b' a'=true:=by
  unfold xD at e;split at e
  . simp only[dV]at ra rb;subst ra;subst rb;split at e
    . rename_i W;simp only[aq,cG]at e;simp[Instr.sameBits,W,e]
    . cases e
  . simp only[dV]at ra rb;subst ra;subst rb;simp only[aq]at e;simp only[Instr.sameBits];rw[kA]at e;have hab:_=_:=eq_of_beq e;subst hab;rw[rJ,kA];simp
  . cases e
 simp[Instr.keyThatStays,this]
theorem x6{t:TypeId}{m k v:V}{m' k' v':Value}{r:cs}(g:Good E h w)(rm:dV E m m')(rk:dV E k k')(rv:dV E v v')(e:sI P t h n m k v=some r):
  jP P E h n w (do Instr.mapUpdate t m' k' v';pure .skip) r:=by
 unfold sI at e;split at e
 . rename_i kt et m hu;split at e
   . rename_i kd T eS W K;obtain⟨b,fK,hi,hb,Bk⟩:=xY g K;obtain⟨b',jB,rfl⟩:=rm;rw[hi]at jB;cases jB;have x3:=fG (P:=P) hb (by intro _ _ _ q;cases q);have sS:∀o',(setObj b o').run P w= .ok () { w with heap:=w.heap.setIfInBounds b o' }:=fun o'=>kj (P:=P) hb (by intro _ _ _ q;cases q);split at e
     . rename_i hq;obtain⟨I8,gL⟩:=hq;have I9:=iL (P:=P) (w:=w) (b:=false) W rk I8;cases hf:uv kd k T 0 with
       |none=>simp[hf]at e
       |some q=>
        have hr:=vu rk T fK.toList 0 q Bk hf;cases q with
        |none=>
         simp only[hf,aq]at e;subst e;have Bj:=x4 (clock':=eS+1) (yR:=T++[(k,v,eS)]) (uc:=fK.push { key:=k',val:=v',born:=eS }) g gL K hi hb (by
          rw[Array.toList_push];exact wF T fK.toList (k,v,eS) { key:=k',val:=v',born:=eS } Bk rk rv rfl)
         refine⟨E,_,undef,.inr ⟨?_,rfl⟩,⟨[],rfl,rfl⟩,Bj,fun _ _=>rfl,.inl ⟨rfl,rfl⟩⟩;simp only[Instr.mapUpdate,Sem.run_bind,dP hu,Result.andThen_ok,x3,I9,gO W hr,sS,Sem.run_pure]
        |some q=>
         obtain⟨j,e0⟩:=q;simp only[hf,aq]at e;subst e;obtain⟨e',a1,a2,a3,a4,a5,a6,a7,a8⟩:=hr;simp only[Nat.sub_zero]at a2 a3;have OC:((fK[j]?).map (·.key)).getD k'=e'.key:=by rw[<- bM,a3];rfl
         have vK:=Cc (P:=P) (w:=w) rk a5 a4;have Bj:=x4 (clock':=eS) (yR:=iB T j fun e=>(k,v,e.2.2)) (uc:=fK.modify j fun e=>{ e with key:=k',val:=v' }) g gL K hi hb (by
          rw[Array.toList_modify];exact pg (f:=fun e=>(k,v,e.2.2)) (f':=fun e=>{ e with key:=k',val:=v' }) (fun x y p q s=>⟨rk,rv,s⟩) T fK.toList j Bk)
         refine⟨E,_,undef,.inr ⟨?_,rfl⟩,⟨[],rfl,rfl⟩,Bj,fun _ _=>rfl,.inl ⟨rfl,rfl⟩⟩;simp only[Instr.mapUpdate,Sem.run_bind,dP hu,Result.andThen_ok,x3,I9,gO W a8,OC,vK,sS,Sem.run_pure]
     . cases e
   . rename_i kd kk T W K;split at e
     . rename_i kq vq Fp hvq;split at e
       . rename_i hb;simp only[ay,aY]at hb;obtain⟨hd,Dz,gL⟩:=hb;obtain rfl:=eH e;obtain⟨b,fK,eS,hi,rM,hr⟩:=xZ g K;obtain⟨b',jB,rfl⟩:=rm;rw[hi]at jB;cases jB;have x3:=fG (P:=P) rM (by intro _ _ _ q;cases q);have sS:∀o',(setObj b o').run P w= .ok () { w with heap:=w.heap.setIfInBounds b o' }:=fun o'=>kj (P:=P) rM (by intro _ _ _ q;cases q);have I8:=xW Fp hd Dz;have I9:=iL (P:=P) (w:=w) (b:=false) W rk I8;rcases hr.tO hd Dz (pE Fp rk) (xH hvq rv).1 with⟨q1,q2⟩|⟨j,e',q1,q2,q3,q4⟩
         . refine⟨E,_,undef,.inr ⟨?_,rfl⟩,⟨[],rfl,rfl⟩,x5 g gL K hi rM q2,fun _ _=>rfl,.inl ⟨rfl,rfl⟩⟩;simp only[Instr.mapUpdate,Sem.run_bind,dP hu,Result.andThen_ok,x3,I9,gO W q1,sS,Sem.run_pure]
         . have OC:((fK[j]?).map (·.key)).getD k'=e'.key:=by rw[q2];rfl
           have vK:(Instr.keyThatStays e'.key k').run P w= .ok k' w:=by
            have r1:=pE Fp rk;have:e'.key=k':=by
             cases kq<;>first|(simp only[kS]at q3 r1;rw[q3,r1])|(unfold keyOf at Fp;split at Fp<;>cases Fp)
            rw[this];refine Cc rk rk (kd:=kd) ?_;have ar0:=(jl Dz Dz).2 rfl;unfold keyOf at Fp;split at Fp<;>first|cases Fp|skip
            . cases kd<;>cases kk<;>simp only[kV,gu,aM]at hd Dz;simp[xD]
            . cases kd<;>cases kk<;>simp only[kV,gu,aM]at hd Dz;simp only[xD,kA];simp
           refine⟨E,_,undef,.inr ⟨?_,rfl⟩,⟨[],rfl,rfl⟩,x5 g gL K hi rM q4,fun _ _=>rfl,.inl ⟨rfl,rfl⟩⟩;simp only[Instr.mapUpdate,Sem.run_bind,dP hu,Result.andThen_ok,x3,I9,gO W q1,OC,vK,sS,Sem.run_pure]
       . cases e
     . cases e
   . cases e
 . cases e
theorem MF{eA:Array TypeId}{ty:TypeId}{args:ag}{dH:List Value}{r:cs}(g:Good E h w)(ra:dZ E args dH)(ha:eA.size=2)(e:E9 P eA args h n=some r):
  jP P E h n w (do pure (.value (<- Builtin.delete_ eA ty dH.toArray))) r:=by
 unfold E9 at e;split at e
 . rename_i t m k Q;obtain⟨m',_,rm,⟨k',_,rk,mS,rfl⟩,rfl⟩:=ra;simp only[dZ]at mS;subst mS;split at e
   . rename_i kt et hu;split at e
     . rename_i kd kk T kq W K Fp;split at e
       . rename_i hb;simp only[ay,aY]at hb;obtain⟨hd,Dz,gL⟩:=hb;obtain rfl:=eH e;obtain⟨b,fK,eS,hi,rM,hr⟩:=xZ g K;obtain⟨b',jB,rfl⟩:=rm;rw[hi]at jB;cases jB;have x3:=fG (P:=P) rM (by intro _ _ _ q;cases q);have sS:∀o',(setObj b o').run P w= .ok () { w with heap:=w.heap.setIfInBounds b o' }:=fun o'=>kj (P:=P) rM (by intro _ _ _ q;cases q);have I8:=xW Fp hd Dz;have I9:=iL (P:=P) (w:=w) (b:=fK.isEmpty) W rk I8;rcases hr.del hd Dz (pE Fp rk)with⟨q1,q2⟩|⟨j,e',q1,q2⟩
         . refine⟨E,_,.tuple #[],.inl ?_,⟨[],rfl,rfl⟩,x5 g gL K hi rM q2,fun _ _=>rfl,.inl ⟨rfl,rfl⟩⟩;simp[Builtin.delete_,Q,dP hu,x3,I9,gO W q1,sS]
         . refine⟨E,_,.tuple #[],.inl ?_,⟨[],rfl,rfl⟩,x5 g gL K hi rM q2,fun _ _=>rfl,.inl ⟨rfl,rfl⟩⟩;simp[Builtin.delete_,Q,dP hu,x3,I9,gO W q1,sS]
       . cases e
     . cases e
   . cases e
 . cases e
theorem Hr{m:Nat}{kk:Option IntKind}{T:ae}(g:Good E h w)(K:h.get m=some (.oJ kk T)):
  ∃b fK,E.ι m=some (b,0)/\w.heap[b]? =some (.map fK T.length)/\lQ E.φ kk T fK.toList:=by
 obtain⟨b,s,hi,hs,fK,Q,O⟩:=g.rel m _ K;subst hs;exact⟨b,fK,hi,Q,O⟩
theorem Hs{kk:Option IntKind}{T yR:ae}{fK uc:Array MapEntry}(g:Good E h w)(gL:m<fZ)(K:h.get m=some (.oJ kk T))(hi:E.ι m=some (b,0))(hb:w.heap[b]? =some (.map fK eS))
  (B:clock'=yR.length) (Bk:lQ E.φ kk yR uc.toList):iQ E h w E (h.set m (some (.oJ kk yR))) { w with heap:=w.heap.setIfInBounds b (.map uc clock') }:=by
 subst B;have eO:b<w.heap.size:=(aW.1 hb).1;refine iQ.write g gL ⟨_,K,rfl⟩ hi (by simp) rfl rfl rfl (fun x I=>?_) ⟨rfl,uc,?_,Bk⟩
 . simp[Ne.symm I]
 . simp[eO]
end
theorem lQ.push{φ:Nat->Option (Array Value)}{kk:Option IntKind}{T:ae}{fK:Array MapEntry}{k v:D}{k' v':Value}(r:lQ φ kk T fK.toList)(W:gu kk k=true)(hn:k∉T.map (·.1))(rk:kS φ k k')(rv:kS φ v v'):
  lQ φ kk (T++[(k,v)]) (fK.push { key:=k',val:=v',born:=T.length }).toList:=by
 rw[Array.toList_push];refine⟨wE T fK.toList (k,v) _ r.row rk rv,?_,fun e he=>?_,?_⟩
 . rw[bQ];exact List.nodup_append.2 ⟨r.keys,by simp,fun a ha b hb=>by simp at hb;subst hb;intro q;subst q;exact hn ha⟩
 . rcases bg.1 he with q|q
   . exact r.kind e q
   . rw[aH]at q;subst q;exact W
 . rw[bQ,r.born,aE,cg,List.range_succ];rfl
theorem wG{α:Type}(f:α->α):∀(l:List α) (i:Nat),(iB l i f).length=l.length/\∀x∈iB l i f,x∈l\/∃y∈l,x=f y
 | [],_=>⟨rfl,fun x I=>.inl I⟩
 |a::l,0=>⟨rfl,fun x I=>by
  simp only[iB,aD]at I;rcases I with q|q
  . exact .inr ⟨a,by simp,q⟩
  . exact .inl (by simp[q])⟩
 |a::l,i+1=>by
  obtain⟨Q,O⟩:=wG f l i;refine⟨by simp only[iB,aP,Q],fun x I=>?_⟩;simp only[iB,aD]at I;rcases I with q|q
  . exact .inl (by simp[q])
  . rcases O x q with q|⟨y,hy,q⟩
    . exact .inl (by simp[q])
    . exact .inr ⟨y,by simp[hy],q⟩
theorem uF(v:D):∀(l:ae) (i:Nat),(iB l i fun e=>(e.1,v)).map (·.1)=l.map (·.1)
 | [],_=>rfl
 |_::_,0=>rfl
 |a::l,i+1=>by simp only[iB,bP,uF v l i]
theorem Ek{φ:Nat->Option (Array Value)}{v:D}{v':Value}(rv:kS φ v v'):∀(l:ae) (T:List MapEntry) (i:Nat),kJ φ l T->kJ φ (iB l i fun e=>(e.1,v)) (T.modify i fun e=>{ e with val:=v' })
 | [],_,i,r=>by simp only[kJ]at r;subst r;simp[kJ,iB]
 |a::l,_,i,r=>by
  obtain⟨y,ys,r1,r2,rs,rfl⟩:=r;cases i with
  |zero=>exact⟨{ y with val:=v' },ys,r1,rv,rs,by simp⟩
  |succ i=>exact⟨y,_,r1,r2,Ek rv l ys i rs,by simp⟩
theorem lQ.val{φ:Nat->Option (Array Value)}{kk:Option IntKind}{T:ae}{fK:Array MapEntry}{v:D}{v':Value}(i:Nat)(r:lQ φ kk T fK.toList)(rv:kS φ v v'):
  lQ φ kk (iB T i fun e=>(e.1,v)) (fK.modify i fun e=>{ e with val:=v' }).toList:=by
 rw[Array.toList_modify];refine⟨Ek rv T fK.toList i r.row,by rw[uF];exact r.keys,fun e he=>?_,?_⟩
 . have:e.1∈(iB T i fun e=>(e.1,v)).map (·.1):=bN.2 ⟨e,he,rfl⟩;rw[uF]at this;obtain⟨x,I,q⟩:=bN.1 this;rw[<- q];exact r.kind x I
 . rw[(wG _ T i).1,<- r.born];apply List.ext_getElem?;intro j;simp only[bI,List.getElem?_modify];by_cases OB:i=j
   . simp[OB];cases fK.toList[j]? <;>rfl
   . simp[OB]
theorem lQ.at{φ:Nat->Option (Array Value)}{kk:Option IntKind}{T:ae}{fK:Array MapEntry}{b:Int}(r:lQ φ kk T fK.toList)(h0:0<=b)(Q:b<T.length):fK.findIdx? (fun e=>(e.born:Int)==b)=some b.toNat:=by
 have q:=List.findIdx?_toArray (fun(e:MapEntry)=>(e.born:Int)==b) fK.toList;rw[Array.toArray_toList]at q;rw[q,bO];have hl:=aI List.length r.born;rw[bG,List.length_range]at hl;have hg:∀(j:Nat) (hj:j<fK.toList.length),(fK.toList[j]).born=j:=fun j hj=>by
  have:=aI (fun l=>l[j]?) r.born;simp only[bI,au hj]at this;rw[au (by rw[List.length_range];omega),List.getElem_range]at this;simpa using this
 refine⟨H,?_,fun j hj=>?_⟩
 . rw[hg];simp;omega
 . rw[hg];simp;omega
theorem Ht{t:TypeId}{m k:V}{m' k':Value}{r:cs}(g:Good E h w)(rm:dV E m m')(rk:dV E k k')(e:vm P t h n m k=some r):
  jP P E h n w (do pure (.value (<- Instr.mapEntry t m' k'))) r:=by
 unfold vm at e;split at e
 . rename_i kt et m hu;split at e
   . rename_i kd T eS z W K hz;obtain⟨b,fK,hi,hb,Bk⟩:=xY g K;obtain⟨b',jB,rfl⟩:=rm;rw[hi]at jB;cases jB;have x3:=fG (P:=P) hb (by intro _ _ _ q;cases q);have sS:∀o',(setObj b o').run P w= .ok () { w with heap:=w.heap.setIfInBounds b o' }:=fun o'=>kj (P:=P) hb (by intro _ _ _ q;cases q);obtain⟨z',Lh,He,_⟩:=kZ (w:=w) E hz;split at e
     . rename_i hq;obtain⟨I8,gL⟩:=hq;have I9:=iL (P:=P) (w:=w) (b:=false) W rk I8;cases hf:uv kd k T 0 with
       |none=>simp[hf]at e
       |some q=>
        have hr:=vu rk T fK.toList 0 q Bk hf;cases q with
        |none=>
         simp only[hf,aq]at e;subst e;have Bj:=x4 (clock':=eS+1) (yR:=T++[(k,z,eS)]) (uc:=fK.push { key:=k',val:=z',born:=eS }) g gL K hi hb (by
          rw[Array.toList_push];exact wF T fK.toList (k,z,eS) { key:=k',val:=z',born:=eS } Bk rk He rfl)
         refine⟨E,_,.tuple #[z',.int .i64 eS],.inl ?_,⟨[z',.int .i64 eS],⟨z',_,He,⟨.int .i64 eS,[],rfl,rfl,rfl⟩,rfl⟩,rfl⟩,Bj,fun _ _=>rfl,.inl ⟨rfl,rfl⟩⟩;simp only[Instr.mapEntry,Sem.run_bind,dP hu,Result.andThen_ok,x3,I9,gO W hr,Lh,sS,Sem.run_pure,goInt]
        |some q=>
         obtain⟨j,e0⟩:=q;simp only[hf,aq]at e;subst e;obtain⟨e',a1,a2,a3,a4,a5,a6,a7,a8⟩:=hr;simp only[Nat.sub_zero]at a2 a3;have OC:((fK[j]?).map (·.key)).getD k'=e'.key:=by rw[<- bM,a3];rfl
         have Li:(Option.map (fun x=>(x.born:Int)) fK[j]?).getD 0=(e0.2.2:Int):=by rw[<- bM,a3];exact aI _ a7
         have vK:=Cc (P:=P) (w:=w) rk a5 a4;have Bj:=x4 (clock':=eS) (yR:=iB T j fun e=>(k,e.2.1,e.2.2)) (uc:=fK.modify j fun e=>{ e with key:=k' }) g gL K hi hb (by
          rw[Array.toList_modify];exact pg (f:=fun e=>(k,e.2.1,e.2.2)) (f':=fun e=>{ e with key:=k' }) (fun x y p q s=>⟨rk,q,s⟩) T fK.toList j Bk)
         refine⟨E,_,.tuple #[e'.val,.int .i64 e0.2.2],.inl ?_,⟨[e'.val,.int .i64 e0.2.2],⟨e'.val,_,a6,⟨.int .i64 e0.2.2,[],rfl,rfl,rfl⟩,rfl⟩,rfl⟩,Bj,fun _ _=>rfl,.inl ⟨rfl,rfl⟩⟩;simp only[Instr.mapEntry,Sem.run_bind,dP hu,Result.andThen_ok,x3,I9,gO W a8,OC,Li,vK,sS,Sem.run_pure,goInt]
     . cases e
   . rename_i kd kk T z W K hz;split at e
     case h_2=>cases e
     rename_i kq z0 Fp Z3;split at e
     case h_2=>cases e
     rename_i G;split at e
     case isFalse=>cases e
     rename_i hb;simp only[ay,aY]at hb;obtain⟨hd,Dz,gL⟩:=hb;obtain rfl:=eH e;obtain⟨b,fK,hi,rM,hr⟩:=Hr g K;obtain⟨b',jB,rfl⟩:=rm;rw[hi]at jB;cases jB;have x3:=fG (P:=P) rM (by intro _ _ _ q;cases q);have sS:∀o',(setObj b o').run P w= .ok () { w with heap:=w.heap.setIfInBounds b o' }:=fun o'=>kj (P:=P) rM (by intro _ _ _ q;cases q);obtain⟨z',Lh,He,_⟩:=kZ (w:=w) E hz;have I8:=xW Fp hd Dz;have I9:=iL (P:=P) (w:=w) (b:=false) W rk I8;have hf:=rN hd Dz (pE Fp rk) T fK.toList 0 hr.row hr.kind;rw[G]at hf;obtain⟨q1,_,_,q4⟩:=hf;have Bj:=Hs (clock':=T.length+1) (yR:=T++[(kq,z0)]) (uc:=fK.push { key:=k',val:=z',born:=T.length }) g gL K hi rM (by simp) (hr.push Dz q4 (pE Fp rk) (xH Z3 He).1);refine⟨E,_,.tuple #[z',.int .i64 T.length],.inl ?_,⟨[z',.int .i64 T.length],⟨z',_,He,⟨.int .i64 T.length,[],rfl,rfl,rfl⟩,rfl⟩,rfl⟩,Bj,fun _ _=>rfl,.inl ⟨rfl,rfl⟩⟩;simp only[Instr.mapEntry,Sem.run_bind,dP hu,Result.andThen_ok,x3,I9,gO W q1,Lh,sS,Sem.run_pure,goInt]
   . cases e
 . cases e
section
variable{eA:Array TypeId}{ty:TypeId}
theorem Fq{m o l jO z:Nat}{dH:List Value}(g:Good E h w)(ra:dZ E [.eR (some (m,o)) l jO z] dH)(B:0<jO):
  jP P E h n w (do pure (.value (<- Builtin.unsafeSliceData_ eA ty dH.toArray))) (.val (.ptr (some (m,o))) h n):=by
 obtain⟨x',_,⟨b,s,o',gx,Q,O,h3,h4,h5,rfl⟩,mS,rfl⟩:=ra;simp only[dZ]at mS;subst mS;have:=O B;subst this;refine eu g (v':=.pointer (some ⟨b,s+o,none⟩)) ?_ ⟨b,s,Q,rfl⟩;rw[Sem.run_bind,Lib.run_unsafeSliceData_row w eA ty ⟨b,s+o,none⟩ l gx H];rfl
theorem AY{pt e:TypeId}{m:Nat}{l:Int}{Ac:Bool}{t:aa}{dH:List Value}(g:Good E h w)(ra:dZ E [.ptr (some (m,0)),.int .i64 l] dH)(U7:eA[0]? =some pt)(ha:eA.size=2)(hp:P.underlying pt=some (.pointer e))
  (K:h.get m=some (.tJ e Ac t)) (hl:l=t.length) (h0:0<t.length) (hce:P.cellsOf e=1) (gL:m<fZ) (h63:t.length<=wu):
  jP P E h n w (do pure (.value (<- Builtin.unsafeString_ eA ty dH.toArray))) (.val (.str t) (h.set m (some (.tJ e true t))) n):=by
 obtain⟨x',_,⟨b,s,Q,rfl⟩,⟨y',_,r2,mS,rfl⟩,rfl⟩:=ra;simp only[dZ]at mS;subst mS;simp only[dV]at r2;subst r2;obtain⟨b',X,oG,c,fz,xs,rM,hs,my,⟨DJ,Jz⟩,B8,mz⟩:=g.rel m _ K;rw[Q]at oG;cases oG;subst hs;have Jy:xs.length=t.length:=by rw[<- B8];simp[iy]
 have qq:t.length<=c.size:=by
  have O:=mz (t.length-1) (xs[t.length-1]'(by omega)) (au H);have:=(aW.1 O).1;omega
 have mV:eA=#[pt,eA[1]'(by omega)]:=by
  apply Array.ext
  . simpa using ha
  . intro i q1 q2;have:i=0\/i=1:=by simp at q2;omega
    rcases this with rfl|rfl
    . rw[bf q1]at U7;simpa using U7
    . rfl
 have hlb:∀(l:List Int) (k:Nat) (Ed:ByteArray),(∀(j:Nat) (x:Int),l[j]? =some x->c[k+j]? =some (.int .u8 x))->(loadBytes ⟨b,k,none⟩ Ed l.length).run P w= .ok ⟨Ed.data++(iy l).toArray⟩ w:=by
  intro l
  induction l with
  |nil=>intro k Ed _;simp[loadBytes,iy]
  |cons x l ih=>
   intro k Ed hh;have e0:=hh 0 x rfl;simp only[aP,loadBytes,Sem.run_bind,run_load,Addr.jb];rw[show(⟨b,k,none⟩:Addr)=⟨b,k+0,none⟩from rfl,mP rM,e0];simp only[Result.andThen_ok];rw[ih (k+0+1) _ (fun j y hy=>by have:=hh (j+1) y (by simpa using hy);rw[<- this];congr 1;omega)];congr 1;simp[iy,ByteArray.push]
 have aa1:=hlb xs 0 .empty (fun j x I=>by rw[b7];exact mz j x I);rw[Jy,B8]at aa1;have hsh:w.shape? b=some (e,c.size):=by simp[World.shape?,rM]
 have aa2:=Lib.liesAt_bytes (P:=P) hce (c.size/P.cellsOf e) t.length (by rw[hce];simpa using qq);have Dx:t.length≠0:=by omega
 have ahi:¬(9223372036854775807:Int)<(t.length:Int):=by unfold wu at h63;omega
 have ahj:IntKind.i64.max=9223372036854775807:=rfl;have ahk:¬(t.length:Int)<0:=by omega
 have hun:=hp;have gm:(Builtin.unsafeString_ eA ty #[.pointer (some ⟨b,0,none⟩),.int .i64 t.length]).run P w= .ok (.string ⟨t.toArray⟩) (w.freeze ⟨b,0,none⟩ t.length):=by
  rw[mV];have ahl:Builtin.unsafeString_ #[pt,eA[1]'(by omega)] ty #[.pointer (some ⟨b,0,none⟩),.int .i64 t.length]=
   (do
    let n <- asInt (.int .i64 t.length)
    if n<0 then runtimePanic (.error "unsafe.String: len out of range")
    if n>IntKind.i64.max then unsupported (.unsafePointer "String: a length above the largest int")
    if n=0 then pure (.string .empty)
    else if <- variablesAt ⟨b,0,none⟩ (<- elemOf pt) n.toNat then do
     let s <- loadBytes ⟨b,0,none⟩ .empty n.toNat
     freeze ⟨b,0,none⟩ n.toNat
     pure (.string s)
    else unsupported (.unsafePointer "String: not so many bytes at ptr")):=rfl
  rw[ahl];simp[asInt,asIntOf,ahj,ahi,ahk,Dx,variablesAt,hsh,elemOf,dP hp,aa2,aa1]
  done
 have h00:(0:Nat)+0=0:=rfl;refine⟨E,w.freeze ⟨b,0,none⟩ t.length,.string ⟨t.toArray⟩,.inl ?_,rfl,?_,fun _ _=>rfl,.inl ⟨rfl,rfl⟩⟩
 . rw[Sem.run_bind,h00,hl];rw[gm];rfl
 . have Fh:eN h m:=⟨_,K,rfl⟩;have hbs:b<w.heap.size:=(aW.1 rM).1;refine iQ.write g gL Fh Q (by unfold World.freeze;rw[aB Dx];simp) (by unfold World.freeze;rw[aB Dx]) (by unfold World.freeze;rw[aB Dx]) (by unfold World.freeze;rw[aB Dx]) (fun x I=>by unfold World.freeze;rw[aB Dx];simp only[cR];rw[aB (Ne.symm I)]) ?_;refine⟨c,(if fz.1==fz.2 then(0,0+t.length)else(min fz.1 0,max fz.2 (0+t.length))),xs,by unfold World.freeze;rw[aB Dx];simp[cR,rM],rfl,my,⟨.inr ?_,fun q=>by simp at q⟩,B8,mz⟩;split
   . simp
   . rename_i q;have:¬fz.1=fz.2:=by simpa using q
     simp only[b7];omega
end
theorem Cd{b:Int}:∀(xs:List (V×V×Nat)) (ys:List MapEntry) (i j:Nat),kI E xs ys->yX b xs i=some j->i<=j/\ys.findIdx? (fun e=>(e.born:Int)==b)=some (j-i)
 | [],_,i,j,r,e=>by simp[yX]at e
 |x::xs,_,i,j,r,e=>by
  obtain⟨y,ys,_,_,c,rs,rfl⟩:=r;simp only[yX]at e;split at e
  . rename_i hb;obtain rfl:=eH e;refine⟨aK _,?_⟩;rw[List.findIdx?_cons,aG (by rw[c];exact hb)];simp
  . rename_i hb;obtain⟨Q,O⟩:=Cd xs ys (i+1) j rs e;refine⟨H,?_⟩;rw[List.findIdx?_cons,aB (by rw[c];exact hb),O];simp;omega
section
variable{t:TypeId}{h':J h2}{x:V}{n':Nat}{x':Value}{r:cs}
theorem DS{m s v:V}{m' X v':Value}{r:cs}(g:Good E h w)(rm:dV E m m')(rs:dV E s X)(rv:dV E v v')(e:qz h n m s v=some r):
  jP P E h n w (do Instr.entryStore t m' X v';pure .skip) r:=by
 unfold qz at e;split at e
 . rename_i m k b0;simp only[dV]at rs;subst rs;split at e
   . rename_i T eS K;obtain⟨b,fK,hi,hb,Bk⟩:=xY g K;obtain⟨b',jB,rfl⟩:=rm;rw[hi]at jB;cases jB;have x3:=fG (P:=P) hb (by intro _ _ _ q;cases q);have sS:∀o',(setObj b o').run P w= .ok () { w with heap:=w.heap.setIfInBounds b o' }:=fun o'=>kj (P:=P) hb (by intro _ _ _ q;cases q);split at e
     . rename_i gL;cases hf:yX b0 T 0 with
       |none=>simp[hf]at e
       |some j=>
        simp only[hf,aq]at e;subst e;obtain⟨_,O⟩:=Cd T fK.toList 0 j Bk hf;have h3:fK.findIdx? (fun e=>(e.born:Int)==b0)=some j:=by
         have q:=List.findIdx?_toArray (fun(e:MapEntry)=>(e.born:Int)==b0) fK.toList;rw[Array.toArray_toList]at q;rw[q];simpa using O
        have Bj:=x4 (clock':=eS) (yR:=iB T j fun e=>(e.1,v,e.2.2)) (uc:=fK.modify j fun e=>{ e with val:=v' }) g gL K hi hb (by
         rw[Array.toList_modify];exact pg (f:=fun e=>(e.1,v,e.2.2)) (f':=fun e=>{ e with val:=v' }) (fun x y p q s=>⟨p,rv,s⟩) T fK.toList j Bk)
        refine⟨E,_,undef,.inr ⟨?_,rfl⟩,⟨[],rfl,rfl⟩,Bj,fun _ _=>rfl,.inl ⟨rfl,rfl⟩⟩;simp only[Instr.entryStore,Sem.run_bind,x3,Result.andThen_ok,asInt,asIntOf,Sem.run_pure,h3,sS]
     . cases e
   . rename_i kk T K;split at e
     case h_2=>cases e
     rename_i v0 OD;split at e
     case isFalse=>cases e
     rename_i hq;obtain⟨gL,hb0,Sz⟩:=hq;obtain rfl:=eH e;obtain⟨b,fK,hi,rM,hr⟩:=Hr g K;obtain⟨b',jB,rfl⟩:=rm;rw[hi]at jB;cases jB;have x3:=fG (P:=P) rM (by intro _ _ _ q;cases q);have sS:∀o',(setObj b o').run P w= .ok () { w with heap:=w.heap.setIfInBounds b o' }:=fun o'=>kj (P:=P) rM (by intro _ _ _ q;cases q);have h3:=hr.at hb0 Sz;have Bj:=Hs (clock':=T.length) (yR:=iB T b0.toNat fun e=>(e.1,v0)) (uc:=fK.modify b0.toNat fun e=>{ e with val:=v' }) g gL K hi rM (wG _ T _).1.symm (hr.val _ (xH OD rv).1);refine⟨E,_,undef,.inr ⟨?_,rfl⟩,⟨[],rfl,rfl⟩,Bj,fun _ _=>rfl,.inl ⟨rfl,rfl⟩⟩;simp only[Instr.entryStore,Sem.run_bind,x3,Result.andThen_ok,asInt,asIntOf,Sem.run_pure,h3,sS]
   . cases e
 . cases e
theorem An{s:Sem Next}{o:h2}{ob:Obj}{v:V}{v':Value}(g:Good E h w)(hn:E.ι n=none)(e:newObj h n o=some (h',n'))
  (ho:∀E1 w1,w1.heap[w.heap.size]? =some ob->nE E1 w1 w.heap.size 0 o) (hr:s.run P w= .ok (.value v') (w.alloc ob)) (hv:dV (E.put n w.heap.size 0 (jU ob)) v v'):jP P E h n w s (.val v h' n'):=by
 obtain⟨gL,rfl,rfl⟩:=kN e;exact⟨_,_,v',.inl hr,hv,iQ.alloc g hn gL (ho _ _ heap_alloc_new),fun m K=>Env.gU K,.inr rfl⟩
theorem JB(g:Good E h w)(hn:E.ι n=none)(e:newObj h n (.map [] 0)=some (h',n')):
  jP P E h n w (do pure (.value (<- Instr.makeMap t none))) (.val (.map (some n)) h' n'):=by
 refine An (ob:=.map #[] 0) (v':=.map (some w.heap.size)) g hn e (fun E1 w1 q=>⟨rfl,#[],q,by simp[kI]⟩) ?_ ⟨w.heap.size,Env.fP,rfl⟩;simp[Instr.makeMap]
theorem OE(g:Good E h w)(hn:E.ι n=none)(rx:dV E x x')(e:BS P t x h n=some r):
  jP P E h n w (do pure (.value (<- Instr.range t x'))) r:=by
 unfold BS at e;split at e
 . rename_i s hu;simp only[dV]at rx;subst rx;cases ho:newObj h n (.nv s 0)with
   |none=>simp[ho]at e
   |some p=>
    obtain⟨h',n'⟩:=p;simp only[ho,aq]at e;subst e;refine An (ob:=.stringIter ⟨s.toArray⟩ 0) (v':=.pointer (some ⟨w.heap.size,0,none⟩)) g hn ho (fun E1 w1 q=>⟨rfl,q⟩) ?_ ⟨w.heap.size,0,Env.fP,by simp⟩;simp[Instr.range,dP hu]
 . cases e
theorem SD{b:Bool}{t:TypeId}{x':Value}{r:cs}(g:Good E h w)(rx:dV E x x')(e:N9 x b h n=some r):
  jP P E h n w (do pure (.value (<- Instr.next x' b t))) r:=by
 unfold N9 at e;split at e
 . rename_i m;obtain⟨b0,s0,hi,rfl⟩:=rx;split at e
   . rename_i s pos K;obtain⟨b1,s1,hi1,pW,hb⟩:=g.rel m _ K;rw[hi]at hi1;cases hi1;subst pW;have x3:=fG (P:=P) hb (by intro _ _ _ q;cases q);have sS:∀o',(setObj b0 o').run P w= .ok () { w with heap:=w.heap.setIfInBounds b0 o' }:=fun o'=>kj (P:=P) hb (by intro _ _ _ q;cases q);have eO:b0<w.heap.size:=(aW.1 hb).1;have my:(⟨s.toArray⟩:ByteArray).size=s.length:=by show s.toArray.size=_;simp
     split at e
     . rename_i hp;simp only at e;split at e
       . rename_i gL;obtain rfl:=eH e;have Bj:iQ E h w E (h.set m (some (.nv s (pos+(Utf8.decode ⟨s.toArray⟩ pos).2)))) { w with heap:=w.heap.setIfInBounds b0 (.stringIter ⟨s.toArray⟩ (pos+(Utf8.decode ⟨s.toArray⟩ pos).2)) }:=by
          refine iQ.write g gL ⟨_,K,rfl⟩ hi (by simp) rfl rfl rfl (fun x I=>?_) ⟨rfl,?_⟩
          . simp[Ne.symm I]
          . simp[eO]
         refine⟨E,_,.tuple #[.bool true,.int .i64 pos,.int .i32 (Utf8.decode ⟨s.toArray⟩ pos).1],.inl ?_,⟨[.bool true,.int .i64 pos,.int .i32 (Utf8.decode ⟨s.toArray⟩ pos).1],⟨_,_,rfl,⟨_,_,rfl,⟨_,_,rfl,rfl,rfl⟩,rfl⟩,rfl⟩,rfl⟩,Bj,fun _ _=>rfl,.inl ⟨rfl,rfl⟩⟩;simp[Instr.next,x3,my,hp,sS,goInt]
       . cases e
     . rename_i hp;obtain rfl:=eH e;refine eu g (v':=.tuple #[.bool false]) ?_ ⟨[.bool false],⟨_,_,rfl,rfl,rfl⟩,rfl⟩;simp[Instr.next,x3,my,hp]
   . cases e
 . cases e
end
end
section
variable{P:Program}{E:Env}{h:J h2}{n:Nat}{w:World}{N:J V}{ρ:Operand->Value}
section
variable{eA:Array TypeId}{ty:TypeId}
theorem Hu{l jO z:Nat}{dH:List Value}(g:Good E h w)(ra:dZ E [.eR none l jO z] dH):
  jP P E h n w (do pure (.value (<- Builtin.unsafeSliceData_ eA ty dH.toArray))) (.val (.ptr none) h n):=by
 obtain⟨x',_,⟨_,_,rfl⟩,mS,rfl⟩:=ra;simp only[dZ]at mS;subst mS;refine eu g (v':=.pointer none) ?_ rfl;rw[Sem.run_bind,Lib.run_unsafeSliceData_nil];rfl
theorem wH{pt:TypeId}{dH:List Value}(g:Good E h w)(ra:dZ E [.ptr none,.int .i64 0] dH)(U7:eA[0]? =some pt)(ha:eA.size=2):
  jP P E h n w (do pure (.value (<- Builtin.unsafeString_ eA ty dH.toArray))) (.val (.str []) h n):=by
 obtain⟨x',_,r1,⟨y',_,r2,mS,rfl⟩,rfl⟩:=ra;simp only[dZ]at mS;subst mS;simp only[dV]at r1 r2;subst r1;subst r2;have mV:eA=#[pt,eA[1]'(by omega)]:=by
  apply Array.ext
  . simp[ha]
  . intro i Q O;have:i=0\/i=1:=by omega
    rcases this with rfl|rfl
    . have:=(aW.1 U7).2;simpa using this
    . rfl
 refine eu g (v':=.string ⟨#[]⟩) ?_ rfl;rw[Sem.run_bind,mV];have:=Lib.run_unsafeString_none (P:=P) w pt (eA[1]'(by omega)) ty none;simp only[List.toArray]at this ⊢;rw[this];rfl
end
def mW(E:Env)(N:J V)(ρ:Operand->Value)(x:Operand):Prop:=∀v,iP N x=some v->dV E v (ρ x)
theorem uG:∀(xs:List Operand) (vs:ag),(∀x∈xs,mW E N ρ x)->uz N xs=some vs->dZ E vs (xs.map ρ)
 | [],vs,_,e=>by simp only[uz,aq]at e;subst e;rfl
 |x::xs,vs,hr,e=>by
  simp only[uz]at e;cases Q:iP N x with
  |none=>simp[Q]at e
  |some v=>cases O:uz N xs with
   |none=>simp[Q,O]at e
   |some r=>
    simp only[Q,O,aq]at e;subst e;exact⟨ρ x,xs.map ρ,hr x (by simp) v Q,uG xs r (fun y hy=>hr y (by simp[hy])) O,rfl⟩
theorem sU:∀(xs:List (Nat×Operand)) (vs:List (Nat×V)),(∀x∈xs.map (·.2),mW E N ρ x)->pN N xs=some vs->Ah E vs (xs.map fun x=>(x.1,ρ x.2))
 | [],vs,_,e=>by simp only[pN,aq]at e;subst e;rfl
 |(i,x)::xs,vs,hr,e=>by
  simp only[pN]at e;cases Q:iP N x with
  |none=>simp[Q]at e
  |some v=>cases O:pN N xs with
   |none=>simp[Q,O]at e
   |some r=>
    simp only[Q,O,aq]at e;subst e;exact⟨(i,ρ x),_,rfl,hr x (by simp) v Q,sU xs r (fun y hy=>hr y (by simp at hy ⊢;exact .inr hy)) O,rfl⟩
theorem wI{x:Option Operand}{v:Option V}(hr:∀y,x=some y->mW E N ρ y)(e:mb N x=some v):nM E v (x.map ρ):=by
 cases x with
 |none=>simp only[mb,aq]at e;subst e;rfl
 |some x=>
  simp only[mb]at e;cases Q:iP N x with
  |none=>simp[Q]at e
  |some y=>simp only[Q,aq]at e;subst e;exact⟨ρ x,hr x rfl y Q,rfl⟩
theorem gi{v:Option V}{r:cs}(e:kF h n v=some r):∃x,v=some x/\r= .val x h n:=by
 cases v with
 |none=>simp[kF]at e
 |some x=>simp only[kF,aq]at e;exact⟨x,rfl,e.symm⟩
theorem sV{f:FuncId}{args:Array Value}(B:callee P f=true):(callFunc f args).run P w= .ok (.enter f args) w:=by
 unfold callee at B;split at B
 . rename_i fn hf;simp only[ay,bne_iff_ne,ne_eq]at B;obtain⟨Q,O⟩:=B;have h3:fn.body.isNone=false:=by cases hb:fn.body<;>simp_all
   have h4:(fn.name == "runtime.NumGoroutine")=false:=by simpa using O
   simp only[callFunc,Sem.run_bind,run_program,Result.andThen_ok,hf,h4,h3,aM,cz];rfl
 . cases B
section
variable{c:Call}{ty:TypeId}{r:cs}
theorem JC(g:Good E h w)(hn:E.ι n=none)(hr:∀x∈c.operands,mW E N ρ x)(e:vV P N c h n=some r):
  jP P E h n w (do let d <- resolve ρ c ty;invoke d.target d.args) r:=by
 unfold vV at e;split at e
 . rename_i args ha;have mA:=uG (E:=E) (ρ:=ρ) c.args.toList args (fun x I=>hr x (by simp[Call.operands];exact .inr (by simpa using I))) ha;have Ce:c.args.map ρ=(c.args.toList.map ρ).toArray:=by apply Array.ext';simp
   split at e
   . rename_i b B;unfold kW at e;split at e
     . split at e
       . rename_i O;have:=Mz (P:=P) (ty:=ty) g hn mA e O;simpa[resolve,B,invoke,builtin,Ce]using this
       . cases e
     . obtain⟨v,Q,rfl⟩:=gi e;have:=Wg (P:=P) (n:=n) (ty:=ty) g mA Q;simpa[resolve,B,invoke,builtin,Ce]using this
     . split at e
       . obtain⟨v,Q,rfl⟩:=gi e;have:=Wh (P:=P) (n:=n) (eA:=c.argTypes) (ty:=ty) g mA Q;simpa[resolve,B,invoke,builtin,Ce]using this
       . cases e
     . split at e
       . obtain⟨v,Q,rfl⟩:=gi e;have:=Wi (P:=P) (n:=n) (eA:=c.argTypes) (ty:=ty) g mA Q;simpa[resolve,B,invoke,builtin,Ce]using this
       . cases e
     . split at e
       . rename_i t v;obtain rfl:=eH e;obtain⟨x',_,⟨y,ry,rfl⟩,mS,hl⟩:=mA;simp only[dZ]at mS;subst mS;have h0:(c.args.map ρ).getD 0 .nilIface= .iface t y:=by rw[Ce,hl];rfl
         refine⟨.iface t y,?_,y,ry,rfl⟩;simp only[resolve,B,pure_bind,invoke,builtin];rw[h0];rfl
       . cases e
     . obtain rfl:=eH e;show _=_;simp[resolve,B,invoke,builtin]
     . split at e
       . split at e
         . rename_i tM;obtain rfl:=eH e;have:=Fq (P:=P) (n:=n) (eA:=c.argTypes) (ty:=ty) g mA tM;simpa[resolve,B,invoke,builtin,Ce]using this
         . cases e
       . obtain rfl:=eH e;have:=Hu (P:=P) (n:=n) (eA:=c.argTypes) (ty:=ty) g mA;simpa[resolve,B,invoke,builtin,Ce]using this
       . cases e
     . split at e
       . rename_i pt m l U7;split at e
         . rename_i e0 el Ac s hp K;split at e
           . rename_i hq;obtain⟨⟨q1,q2⟩,⟨rfl,q3⟩,q4,q5,q6⟩:=hq;obtain rfl:=eH e;have:=AY (P:=P) (n:=n) (eA:=c.argTypes) (ty:=ty) g mA U7 q5 hp K q1 q2 q3 q4 q6;simpa[resolve,B,invoke,builtin,Ce]using this
           . cases e
         . cases e
       . rename_i pt l U7;split at e
         . rename_i hq;obtain⟨q1,q5⟩:=hq;subst q1;obtain rfl:=eH e;have:=wH (P:=P) (n:=n) (eA:=c.argTypes) (ty:=ty) g mA U7 q5;simpa[resolve,B,invoke,builtin,Ce]using this
         . cases e
       . cases e
     . split at e
       . rename_i O;have:=MF (P:=P) (ty:=ty) g mA O e;simpa[resolve,B,invoke,builtin,Ce]using this
       . cases e
     . cases e
   . cases e
   . rename_i f B;split at e
     . rename_i gf first captured hf
       split at e
       . rename_i Cf;obtain rfl:=eH e;obtain⟨f',fi,ca,R6,r1,r2,JD⟩:=hr f (by simp[Call.operands,B]) _ hf;simp only[Ae]at R6;subst R6;refine⟨fi++c.args.toList.map ρ++ca,iK (iK r1 mA) r2,.inl ⟨?_,Cf⟩⟩;have lE:=sV (w:=w) (args:=(fi++c.args.toList.map ρ++ca).toArray) Cf;simp only[resolve,B,JD,Deferred.ofValue,pure_bind,invoke];rw[<- lE];congr 2;apply Array.ext';simp
       . cases e
     . rename_i m hf;obtain⟨f',fi,ca,⟨l,s,iY,R6⟩,r1,r2,JD⟩:=hr f (by simp[Call.operands,B]) _ hf;subst R6;simp only[dZ]at r1 r2;subst r1;subst r2;split at e
       . split at e
         . obtain rfl:=eH e;refine⟨c.args.toList.map ρ,mA,.inr ⟨m,l,s,rfl,iY,?_⟩⟩;simp only[resolve,B,JD,Deferred.ofValue,pure_bind,invoke,Ce];simp
         . cases e
       . cases e
     . cases e
 . cases e
theorem Hv(hr:∀x∈c.operands,mW E N ρ x)(e:BT N c=some r):
  jP P E h n w (do pure (.defer (<- resolve ρ c ty))) r:=by
 unfold BT at e;split at e
 . rename_i args ha;have mA:=uG (E:=E) (ρ:=ρ) c.args.toList args (fun x I=>hr x (by simp[Call.operands];exact .inr (by simpa using I))) ha;split at e
   . rename_i f B;split at e
     . rename_i gf first captured hf
       obtain rfl:=eH e;obtain⟨f',fi,ca,R6,r1,r2,JD⟩:=hr f (by simp[Call.operands,B]) _ hf;simp only[Ae]at R6;subst R6;refine⟨ca,fi++c.args.toList.map ρ,?_,r2,iK r1 mA⟩;simp only[resolve,B,JD,Deferred.ofValue,pure_bind];show Result.ok _ w=_;congr 3;apply Array.ext';simp
     . cases e
   . cases e
 . cases e
end
set_option maxHeartbeats 1000000 in
theorem nO{o:Oper}{r:cs}(g:Good E h w)(hn:E.ι n=none)(hr:∀x∈o.op.operands,mW E N ρ x)(e:dS P o N h n=some r):jP P E h n w (execOp ρ o) r:=by
 obtain⟨dst,op,ty,pos,after,guard⟩:=o;simp only at hr;cases op<;>simp only[dS]at e<;>simp only[Op.operands]at hr<;>simp only[execOp]
 case move x=>
  obtain⟨v,Q,rfl⟩:=gi e;exact eu g rfl (hr x (by simp) v Q)
 case assign x=>
  obtain⟨v,Q,rfl⟩:=gi e;exact eu g rfl (hr x (by simp) v Q)
 case pick c x y=>
  split at e
  . rename_i B;obtain⟨v,Q,rfl⟩:=gi e;have rc:=hr c (by simp) _ B;simp only[dV]at rc;exact eu g (by simp[rc,asBool]) (hr x (by simp) v Q)
  . rename_i B;obtain⟨v,Q,rfl⟩:=gi e;have rc:=hr c (by simp) _ B;simp only[dV]at rc;exact eu g (by simp[rc,asBool]) (hr y (by simp) v Q)
  . cases e
 case alloc t=>
  split at e
  . rename_i z hz;split at e
    . rename_i h' n' ho;obtain rfl:=eH e;exact Ok g hn hz ho
    . cases e
  . cases e
 case box t x=>
  split at e
  . rename_i v hv;split at e
    . rename_i h' n' ho;obtain rfl:=eH e;exact V5 g hn (hr x (by simp) v hv) ho
    . cases e
  . cases e
 case build t parts=>
  split at e
  . rename_i ps vL;obtain⟨v,Q,rfl⟩:=gi e;have hp:=sU (E:=E) (ρ:=ρ) parts.toList ps (fun x I=>hr x (by simpa using I)) vL;have hq:Ah E ps (parts.map fun(i,x)=>(i,ρ x)).toList:=by simpa using hp
    obtain⟨v',q1,q2⟩:=Mu (P:=P) (w:=w) hq Q;refine eu g (v':=v') ?_ q2;simp only[Sem.run_bind,q1,Result.andThen_ok,Sem.run_pure]
  . cases e
 case buildSlice t len parts=>
  split at e
  . rename_i ps vL;have hp:=sU (E:=E) (ρ:=ρ) parts.toList ps (fun x I=>hr x (by simpa using I)) vL;have hq:Ah E ps (parts.map fun(i,x)=>(i,ρ x)).toList:=by simpa using hp
    have:=DL (P:=P) (w:=w) (t:=t) (len:=len) g hn hq e;exact this
  . cases e
 case load t x=>
  split at e
  . rename_i v hv;obtain⟨u,Q,rfl⟩:=gi e;exact Su g (hr x (by simp) v hv) Q
  . cases e
 case store t x y=>
  split at e
  . rename_i a v ha hv;split at e
    . rename_i h' hs;obtain rfl:=eH e;exact Om g (hr x (by simp) a ha) (hr y (by simp) v hv) hs
    . cases e
  . cases e
 case nilCheck x=>
  split at e
  . rename_i p hv;obtain rfl:=eH e;have I:=hr x (by simp) _ hv;obtain⟨b,s,q1,q2⟩:=I;rw[q2];exact eu g (v':=.pointer (some ⟨b,s+p.2,none⟩)) rfl ⟨b,s,q1,rfl⟩
  . rename_i R hv;obtain rfl:=eH e;have I:=hr x (by simp) _ hv;obtain⟨b,o,c,vs,q1,q2⟩:=I;rw[q1];exact eu g (v':=.pointer (some ⟨b,o,none⟩)) rfl ⟨b,o,c,vs,rfl,q2⟩
  . rename_i f a c hv;obtain rfl:=eH e;have I:=hr x (by simp) _ hv;obtain⟨f',a',c',q0,q1,q2,q3⟩:=I;simp only[Ae]at q0;subst q0;rw[q3];exact eu g (v':=.func (.func f) a'.toArray c'.toArray) rfl ⟨_,a',c',rfl,q1,q2,rfl⟩
  . rename_i t v hv;obtain rfl:=eH e;have I:=hr x (by simp) _ hv;obtain⟨y,q1,q2⟩:=I;rw[q2];exact eu g (v':=.iface t y) rfl ⟨y,q1,rfl⟩
  . cases e
 case binOp op t x y yt=>
  split at e
  . rename_i a b ha hb;obtain⟨u,Q,rfl⟩:=gi e;exact Ot g (hr x (by simp) a ha) (hr y (by simp) b hb) Q
  . cases e
 case unOp op t x=>
  split at e
  . rename_i v hv;obtain⟨u,Q,rfl⟩:=gi e;exact Sw g (hr x (by simp) v hv) Q
  . cases e
 case convert s d x=>
  split at e
  . rename_i v hv;exact Jx g hn (hr x (by simp) v hv) e
  . cases e
 case makeInterface t x=>
  split at e
  . rename_i v d hv hu;split at e
    . cases e
    . rename_i hd;obtain rfl:=eH e;have I:=hr x (by simp) v hv;refine eu g (v':=.iface t (ρ x)) ?_ ⟨ρ x,I,rfl⟩;simp only[Instr.makeInterface,Sem.run_bind,dP hu,Result.andThen_ok];cases d<;>first|(exact absurd rfl (hd _))|rfl
  . cases e
 case makeFunc f first captured=>
  split at e
  . rename_i a c ha B;split at e
    case isFalse=>cases e
    rename_i hny;obtain rfl:=eH e;have hfn:Ae E f f:=by cases f<;>first|rfl|cases hny
    have r1:=uG (E:=E) (ρ:=ρ) first.toList a (fun x I=>hr x (by simp at I ⊢;exact .inl I)) ha
    have r2:=uG (E:=E) (ρ:=ρ) captured.toList c (fun x I=>hr x (by simp at I ⊢;exact .inr I)) B;refine eu g (v':=.func f (first.map ρ) (captured.map ρ)) rfl ⟨f,first.toList.map ρ,captured.toList.map ρ,hfn,r1,r2,?_⟩;congr 1<;>(apply Array.ext';simp)
  . cases e
 case makeMap t res=>
  cases res with
  |some _=>simp at e
  |none=>
   simp only at e;split at e
   . rename_i h' n' ho;obtain rfl:=eH e;exact JB g hn ho
   . cases e
 case makeSlice t l c=>
  split at e
  . rename_i lv cv hl B;exact Fm g hn (hr l (by simp) lv hl) (hr c (by simp) cv B) e
  . cases e
 case slice t x lo hi mx=>
  split at e
  . rename_i v lov hiv mxv hv Dy MG hmx;obtain⟨u,Q,rfl⟩:=gi e;refine Ow g (hr x (by simp) v hv) (wI (fun y hy=>hr y ?_) Dy) (wI (fun y hy=>hr y ?_) MG) (wI (fun y hy=>hr y ?_) hmx) Q
    . subst hy;simp
    . subst hy;simp
    . subst hy;simp
  . cases e
 case fieldAddr t x f=>
  split at e
  . rename_i v hv;obtain⟨u,Q,rfl⟩:=gi e;exact Fj g (hr x (by simp) v hv) Q
  . cases e
 case field t x f=>
  split at e
  . rename_i v hv;obtain⟨u,Q,rfl⟩:=gi e;exact Ou g (hr x (by simp) v hv) Q
  . cases e
 case indexAddr t x i=>
  split at e
  . rename_i v iv hv hi;obtain⟨u,Q,rfl⟩:=gi e;exact Fk g (hr x (by simp) v hv) (hr i (by simp) iv hi) Q
  . cases e
 case index t x i=>
  split at e
  . rename_i v iv hv hi;obtain⟨u,Q,rfl⟩:=gi e;exact Ov g (hr x (by simp) v hv) (hr i (by simp) iv hi) Q
  . cases e
 case lookup t x k ok=>
  split at e
  . rename_i v kv hv W;obtain⟨u,Q,rfl⟩:=gi e;exact ME g (hr x (by simp) v hv) (hr k (by simp) kv W) Q
  . cases e
 case mapUpdate t m k v=>
  split at e
  . rename_i mv kv vv K W hv;exact x6 g (hr m (by simp) mv K) (hr k (by simp) kv W) (hr v (by simp) vv hv) e
  . cases e
 case insert t m k v=>
  split at e
  . rename_i mv kv vv K W hv;exact x6 g (hr m (by simp) mv K) (hr k (by simp) kv W) (hr v (by simp) vv hv) e
  . cases e
 case mapEntry t m k=>
  split at e
  . rename_i mv kv K W;exact Ht g (hr m (by simp) mv K) (hr k (by simp) kv W) e
  . cases e
 case entryStore t m s v=>
  split at e
  . rename_i mv sv vv K hs hv;exact DS g (hr m (by simp) mv K) (hr s (by simp) sv hs) (hr v (by simp) vv hv) e
  . cases e
 case range t x=>
  split at e
  . rename_i v hv;exact OE g hn (hr x (by simp) v hv) e
  . cases e
 case next it b=>
  split at e
  . rename_i v hv;exact SD g (hr it (by simp) v hv) e
  . cases e
 case typeAssert x xt t ok=>
  split at e
  . rename_i v hv;obtain⟨u,Q,rfl⟩:=gi e;exact DO g (hr x (by simp) v hv) Q
  . cases e
 case extract x i=>
  split at e
  . rename_i vs hv;obtain⟨u,Q,rfl⟩:=gi e;exact Jv g (hr x (by simp) _ hv) Q
  . cases e
 case panic x=>
  split at e
  . rename_i t v hv;obtain rfl:=eH e;obtain⟨y,q1,q2⟩:=hr x (by simp) _ hv;refine⟨.iface t y,?_,y,q1,rfl⟩;rw[q2];simp[Instr.panic]
  . cases e
 case call c=>exact JC g hn hr e
 case defer c=>exact Hv hr e
 all_goals (cases e)
end
def wJ(E:Env)(N:J V)(a:Act):Prop:=∀t v,N.get t=some v->∃v',a.tmps[t]? =some v'/\dV E v v'
theorem mB{E E':Env}(h:E.le E'){N:J V}{a:Act}(r:wJ E N a):wJ E' N a:=fun t v e=>let⟨v',Q,O⟩:=r t v e;⟨v',Q,jh h v v' O⟩
section
variable(a:Act){E:Env}(dst:Option Tmp){N:J V}
theorem lT(v:Value):(a.put dst v).tmps.size=a.tmps.size:=by cases dst<;>simp[Act.put]
theorem jH(v:Value):(a.put dst v).defers=a.defers:=by cases dst<;>rfl
def mX(fr:Nat)(dst:Option Tmp):Prop:=∀d,dst=some d->d<fr
theorem oh{fr':J V}{a:Act}{dst:Option Tmp}{v:V}{v':Value}(r:wJ E N a)(e:jw N dst v=some fr')(hv:dV E v v')(hd:mX a.tmps.size dst):wJ E fr' (a.put dst v'):=by
 cases dst with
 |none=>simp only[jw,aq]at e;subst e;exact r
 |some d=>
  simp only[jw]at e;split at e
  . rename_i ht;obtain rfl:=eH e;intro t x I;rw[J.fJ _ _ _ ht]at I;have eO:=hd d rfl;by_cases q:t=d
    . subst q;rw[aG rfl]at I;cases I;exact⟨v',by simp[Act.put,eO],hv⟩
    . rw[aB q]at I;obtain⟨y,Q,O⟩:=r t x I;exact⟨y,by simp[Act.put,Ne.symm q,Q],O⟩
  . cases e
theorem mY{a:Act}(ge:GE E)(r:wJ E N a)(x:Operand):mW E N a.eval x:=by
 intro v e;cases x with
 |tmp t=>obtain⟨v',Q,O⟩:=r t v e;simp only[Act.eval,bJ,Q];exact O
 |const c=>exact y8 e
 |func f=>simp only[iP,aq]at e;subst e;exact⟨_,[],[],rfl,rfl,rfl,rfl⟩
 |global g=>exact GZ ge e
end
theorem wK{E:Env}{ops:Array Oper}{o:Oper}{N:J V}{a:Act}{b:Bool}(r:∀j Fa q d,o.guard=some (j,Fa)->ops[j]? =some q->q.dst=some d->∀v,N.get d=some v->∃v',a.tmps[d]? =some v'/\dV E v v')(e:fT ops o N=some b):
  Region.wanted o (yielded ops a.tmps)=b:=by
 unfold fT at e;unfold Region.wanted;cases hg:o.guard with
 |none=>simp only[hg,aq]at e ⊢;exact e
 |some p=>
  obtain⟨j,Fa⟩:=p;simp only[hg]at e ⊢;cases hj:ops[j]? with
  |none=>simp[hj]at e
  |some q=>
   simp only[hj]at e;cases hd:q.dst with
   |none=>simp[hd]at e
   |some d=>
    simp only[hd]at e;cases hf:N.get d with
    |none=>simp[hf]at e
    |some v=>
     obtain⟨v',Q,O⟩:=r j Fa q d hg hj hd v hf;have hy:yielded ops a.tmps j=(match(some v':Option Value)with|some (.bool b)=>some b|_=>none):=by
      unfold yielded;rw[hj];simp only[Option.bind_some,hd,Q];cases v'<;>rfl
     cases v with
     |bool b0=>
      simp only[hf,aq]at e;simp only[dV]at O;subst O;rw[hy,<- e];cases b0<;>cases Fa<;>rfl
     |gw vs=>
      cases vs with
      |nil=>
       simp only[hf,aq]at e;obtain⟨l,hl,rfl⟩:=O;rw[hy,<- e];rfl
      |cons _ _=>simp[hf]at e
     |_=>simp[hf]at e
def pX(E:Env)(n:Nat):Prop:=∀m,n<=m->E.ι m=none
def wL(E:Env):pO->Ending->Prop
 | .ret v,.returned v'=>dV E v v'
 | .nr v,.panicked chain=>∃v',dV E v v'/\chain=[{ v:=v',recovered:=false }]
 |_,_=>False
def fz(cs:Option Nat):Fence:={ Fence.wide with round:=cs }
def iG(E:Env)(h:J h2)(n:Nat)(w:World)(sE:pO)(h':J h2)(n':Nat)(e:Ending)(w':World):Prop:=
 ∃E',iQ E h w E' h' w'/\(∀m,m<n->E'.ι m=E.ι m)/\pX E' n'/\n<=n'/\wL E' sE e
def gA(P:Program)(cf:fO):Prop:=∀f args h n sE h' n',cf f args h n=some (sE,h',n')->∀E w dH,dZ E args dH->Good E h w->pX E n->
 (callee P f=true->Calls P f dH.toArray w (iG E h n w sE h' n'))/\
 (∀m l s,f=P.funcs.size+m->E.ι m=some (l,s)->YieldAt Fence.wide 0 P l dH.toArray w (iG E h n w sE h' n'))
theorem uH{cs:Option Nat}{ρ:Operand->Value}{o:Oper}(h:∀c,o.op≠ .defer c):Oper.semAt cs ρ o=execOp ρ o:=by
 cases cs with
 |none=>exact Oper.semAt_none ..
 |some l=>exact Oper.semAt_some l ρ o h
theorem JE{N:J V}{c:Call}{r:cs}(e:BT N c=some r):∃f a b,r= .tY f a b:=by
 unfold BT at e;split at e
 . split at e
   . split at e
     . simp only[aq]at e;exact⟨_,_,_,e.symm⟩
     . cases e
   . cases e
 . cases e
section
variable{P:Program}{E:Env}{h h':J h2}{n n':Nat}{w:World}{N:J V}{a:Act}{o:Oper}{hm:Act->World->Prop}{h1:Exit->Act->World->Prop}{rz:Option Nat}
theorem zh{r:cs}(e:dS P o N h n=some r)(hr:∀f a b,r≠ .tY f a b):∀c,o.op≠ .defer c:=by
 intro c B;simp only[dS,B]at e;obtain⟨f,x,y,q⟩:=JE e;exact hr f x y q
theorem Fs{v:V}(g:Good E h w)(hn:E.ι n=none)(hr:∀x∈o.op.operands,mW E N a.eval x)(e:dS P o N h n=some (.val v h' n'))
  (W:∀E' w' v',dV E' v v'->iQ E h w E' h' w'->(∀m,m≠n->E'.ι m=E.ι m)->((n'=n/\E'=E)\/n'=n+1)->hm (a.put o.dst v') w'):o.wpIn (fz rz) 0 P a w hm h1:=by
 obtain⟨E',w',v',gm,Q,O,h3,h4⟩:=nO g hn hr e;refine⟨fun _ _=>trivial,?_⟩;rw[uH (zh e fun _ _ _=>by simp)];rcases gm with gm|⟨gm,rfl⟩
 . rw[gm,Oper.uponIn_value];exact W E' w' v' Q O h3 h4
 . rw[gm,Oper.uponIn_skip];exact W E' w' undef Q O h3 h4
theorem Bl{cf:fO}{f:FuncId}{args:ag}{sE:pO}(lE:gA P cf)(g:Good E h w)(hn:pX E n)(hr:∀x∈o.op.operands,mW E N a.eval x)
  (e:dS P o N h n=some (.call f args)) (ec:cf f args h n=some (sE,h',n'))
  (W:∀E' w',iQ E h w E' h' w'->(∀m,m<n->E'.ι m=E.ι m)->pX E' n'->n<=n'->
   match sE with
   | .ret v=>∀v',dV E' v v'->hm (a.put o.dst v') w'
   | .nr v=>∀v',dV E' v v'->h1 (.panic [{ v:=v',recovered:=false }]) a w'):o.wpIn (fz rz) 0 P a w hm h1:=by
 obtain⟨dH,Q,gm⟩:=nO g (hn n (aK _)) hr e;refine⟨fun _ _=>trivial,?_⟩;rw[uH (zh e fun _ _ _=>by simp)];have oI:∀en w',iG E h n w sE h' n' en w'->(match en,w' with
  | .returned v,w''=>hm (a.put o.dst v) w''
  | .panicked chain,w''=>h1 (.panic chain) a w''
  | .outgrown,_=>LetsOut h1):=fun en w' ⟨E',u1,u2,u3,u4,u5⟩=>by
  have:=W E' w' u1 u2 u3 u4;cases sE with
  |ret v=>cases en with
   |returned v'=>exact this v' u5
   |panicked _=>exact u5.elim
   |outgrown=>exact u5.elim
  |nr v=>cases en with
   |returned v'=>exact u5.elim
   |panicked chain=>obtain⟨v',q1,rfl⟩:=u5;exact this v' q1
   |outgrown=>exact u5.elim
 rcases gm with⟨gm,O⟩|⟨m,l,s,O,h3,gm⟩
 . rw[gm,Oper.uponIn_enter];have B:CallsIn Fence.wide (0-1) P f dH.toArray w _:=callsIn_wide.2 (((lE f args h n sE h' n' ec E w dH Q g hn).1 O).mono oI);exact⟨fun hd=>by simp[fz,Fence.wide]at hd,B⟩
 . obtain⟨fn,tmps,assign,body,q1,q2⟩:=(lE f args h n sE h' n' ec E w dH Q g hn).2 m l s O h3;rw[gm,q1,Oper.uponIn_round];have B:RoundIn Fence.wide (0-1) P l fn tmps assign body w _:=q2.mono oI;exact⟨fun hd=>by simp[fz,Fence.wide]at hd,B⟩
theorem OF{v:V}(g:Good E h w)(hn:E.ι n=none)(hr:∀x∈o.op.operands,mW E N a.eval x)(e:dS P o N h n=some (.panic v))
  (W:∀v',dV E v v'->h1 (.panic [{ v:=v',recovered:=false }]) a w):o.wpIn (fz rz) 0 P a w hm h1:=by
 obtain⟨v',gm,Q⟩:=nO g hn hr e;refine⟨fun _ _=>trivial,?_⟩;rw[uH (zh e fun _ _ _=>by simp)];rw[gm,Oper.uponIn_panic];exact W v' Q
theorem Wj{f:FuncId}{c args:ag}(hrn:rz=none)(g:Good E h w)(hn:E.ι n=none)(hr:∀x∈o.op.operands,mW E N a.eval x)(e:dS P o N h n=some (.tY f c args))
  (W:∀c' dH,dZ E c c'->dZ E args dH->hm ({ a with defers:={ target:=.fn (.func f) c'.toArray,args:=dH.toArray }::a.defers }.put o.dst undef) w):o.wpIn (fz rz) 0 P a w hm h1:=by
 subst hrn;obtain⟨c',dH,gm,Q,O⟩:=nO g hn hr e;refine⟨fun _ _=>trivial,?_⟩;show o.uponIn (fz none) 0 P a hm h1 ((Oper.semAt none a.eval o).run P w);rw[Oper.semAt_none,gm,Oper.uponIn_defer];exact W c' dH Q O
end
def Sub(x y:J h2):Prop:=∀k b,x.get k=some b->y.get k=some b
section
variable{P:Program}{N:J V}{x:J h2}{n:Nat}
theorem Hw{o:Oper}{r:cs}(hp:oK o.op=true)(e:dS P o N x n=some r):∃v,r= .val v x n/\∀(y:J h2) (k:Nat),dS P o N y k=some (.val v y k):=by
 obtain⟨dst,op,ty,pos,after,guard⟩:=o;simp only at hp;cases op<;>simp only[oK]at hp<;>first|(cases hp;done)|skip
 all_goals simp only[dS]at e
 case move a=>obtain⟨v,Q,rfl⟩:=gi e;exact⟨v,rfl,fun y k=>by simp only[dS,Q,kF]⟩
 case assign a=>obtain⟨v,Q,rfl⟩:=gi e;exact⟨v,rfl,fun y k=>by simp only[dS,Q,kF]⟩
 case pick c a b=>
  split at e
  . rename_i B;obtain⟨v,Q,rfl⟩:=gi e;exact⟨v,rfl,fun y k=>by simp only[dS,B,Q,kF]⟩
  . rename_i B;obtain⟨v,Q,rfl⟩:=gi e;exact⟨v,rfl,fun y k=>by simp only[dS,B,Q,kF]⟩
  . cases e
 case build t parts=>
  split at e
  . rename_i ps B;obtain⟨v,Q,rfl⟩:=gi e;exact⟨v,rfl,fun y k=>by simp only[dS,B,Q,kF]⟩
  . cases e
 case nilCheck a=>
  split at e
  . rename_i p B;obtain rfl:=eH e;exact⟨_,rfl,fun y k=>by simp only[dS,B]⟩
  . rename_i B;obtain rfl:=eH e;exact⟨_,rfl,fun y k=>by simp only[dS,B]⟩
  . rename_i B;obtain rfl:=eH e;exact⟨_,rfl,fun y k=>by simp only[dS,B]⟩
  . rename_i t v B;obtain rfl:=eH e;exact⟨_,rfl,fun y k=>by simp only[dS,B]⟩
  . cases e
 case binOp op t a b yt=>
  split at e
  . rename_i u w Q O;obtain⟨v,h3,rfl⟩:=gi e;exact⟨v,rfl,fun y k=>by simp only[dS,Q,O,h3,kF]⟩
  . cases e
 case unOp op t a=>
  split at e
  . rename_i u Q;obtain⟨v,h3,rfl⟩:=gi e;exact⟨v,rfl,fun y k=>by simp only[dS,Q,h3,kF]⟩
  . cases e
 case makeInterface t a=>
  split at e
  . rename_i v d Q O;split at e
    . cases e
    . rename_i hd;obtain rfl:=eH e;refine⟨_,rfl,fun y k=>?_⟩;simp only[dS,Q,O]
  . cases e
 case makeFunc f a c=>
  split at e
  . rename_i u w Q O;split at e
    case isFalse=>cases e
    rename_i hny;obtain rfl:=eH e;exact⟨_,rfl,fun y k=>by simp only[dS,Q,O,hny,if_true]⟩
  . cases e
 case fieldAddr t a f=>
  split at e
  . rename_i u Q;obtain⟨v,h3,rfl⟩:=gi e;exact⟨v,rfl,fun y k=>by simp only[dS,Q,h3,kF]⟩
  . cases e
 case field t a f=>
  split at e
  . rename_i u Q;obtain⟨v,h3,rfl⟩:=gi e;exact⟨v,rfl,fun y k=>by simp only[dS,Q,h3,kF]⟩
  . cases e
 case indexAddr t a i=>
  split at e
  . rename_i u w Q O;obtain⟨v,h3,rfl⟩:=gi e;exact⟨v,rfl,fun y k=>by simp only[dS,Q,O,h3,kF]⟩
  . cases e
 case index t a i=>
  split at e
  . rename_i u w Q O;obtain⟨v,h3,rfl⟩:=gi e;exact⟨v,rfl,fun y k=>by simp only[dS,Q,O,h3,kF]⟩
  . cases e
 case typeAssert a s t ok=>
  split at e
  . rename_i u Q;obtain⟨v,h3,rfl⟩:=gi e;exact⟨v,rfl,fun y k=>by simp only[dS,Q,h3,kF]⟩
  . cases e
 case extract a i=>
  split at e
  . rename_i vs Q;obtain⟨v,h3,rfl⟩:=gi e;exact⟨v,rfl,fun y k=>by simp only[dS,Q,h3,kF]⟩
  . cases e
section
variable{t:TypeId}{o:Oper}{a:V}{r:cs}
theorem Hx{v:V}{y:J h2}(hs:Sub x y)(e:loadAt P t x a=some v):loadAt P t y a=some v:=by
 unfold loadAt at e ⊢;split at e
 . rename_i m o;split at e
   . rename_i R K;simp only[hs m _ K];exact e
   . rename_i k Y K;simp only[hs m _ K];exact e
   . rename_i k Y K;simp only[hs m _ K];exact e
   . rename_i R K;simp only[hs m _ K];exact e
   . rename_i es self x0 K;simp only[hs m _ K];exact e
   . cases e
 . exact e
 . cases e
theorem Ft{m k:Nat}{y:J h2}(hs:Sub x y)(e:xC x m k=true):xC y m k=true:=by
 unfold xC at e ⊢;split at e
 . rename_i R K;simp only[hs m _ K];exact e
 . cases e
theorem Hy{v:V}{lo hi mx:Option V}{y:J h2}(hs:Sub x y)(e:l8 P t x a lo hi mx=some v):l8 P t y a lo hi mx=some v:=by
 unfold l8 at e ⊢;split at e
 . cases e
 . rename_i h0;rw[aB h0];split at e
   . exact e
   . exact e
   . exact e
   . rename_i nn el b o hu;cases Q:ku P el with
     |none=>simp[Q]at e
     |some s=>cases O:eV nn nn mx with
      |none=>simp[Q,O]at e
      |some m=>cases h3:eV nn m hi with
       |none=>simp[Q,O,h3]at e
       |some hh=>cases h4:eV 0 hh lo with
        |none=>simp[Q,O,h3,h4]at e
        |some l=>
         simp only[Q,O,h3,h4]at e ⊢;split at e
         . rename_i hq;rw[aG ⟨hq.1,hq.2.1,Ft hs hq.2.2⟩];exact e
         . cases e
   . cases e
theorem Fu{k v:V}{ok:Bool}{y:J h2}(hs:Sub x y)(e:vk P t x a k ok=some v):vk P t y a k ok=some v:=by
 unfold vk at e ⊢;split at e
 . split at e
   . cases a with
     |map m=>
      cases m with
      |none=>exact e
      |some m=>
       simp only[V.U1]at e ⊢;cases K:x.get m with
       |none=>simp[K]at e
       |some o=>
        have hy:=hs m o K;rw[hy];rw[K]at e;cases o with
        |gl kk T=>exact e
        |_=>simp only[hy];simp only[K]at e;exact e
     |_=>exact e
   . cases e
 . cases e
theorem MH{ts:Array TypeId}{as:ag}{v:V}{y:J h2}(hs:Sub x y)(e:Mp P ts as x=some v):Mp P ts as y=some v:=by
 unfold Mp at e ⊢;split at e
 . split at e
   . exact e
   . exact e
   . exact e
   . exact e
   . exact e
   . rename_i m hu;cases K:x.get m with
     |none=>simp[K]at e
     |some o=>
      simp only[hs m o K];simp only[K]at e;exact e
   . cases e
 . cases e
theorem JF{o:h2}{p:J h2×Nat}(e:newObj x n o=some p)(y:J h2):n<fZ/\p=(x.set n (some o),n+1)/\newObj y n o=some (y.set n (some o),n+1):=by
 obtain⟨h',n'⟩:=p;obtain⟨Q,rfl,rfl⟩:=kN e;exact⟨Q,rfl,by simp[newObj,Q]⟩
def uI(P:Program)(o:Oper)(N:J V)(x:J h2)(n:Nat)(r:cs):Prop:=
 (∃v,r= .val v x n/\∀y,Sub x y->dS P o N y n=some (.val v y n)) \/
 (∃v b,n<fZ/\r= .val v (x.set n (some b)) (n+1)/\∀y,dS P o N y n=some (.val v (y.set n (some b)) (n+1)))
theorem uI.alloc{ob:h2}{v:V}{h':J h2}{n':Nat}(e:newObj x n ob=some (h',n'))(k:∀(y O:J h2) (m:Nat),newObj y n ob=some (O,m)->dS P o N y n=some (.val v O m)):uI P o N x n (.val v h' n'):=by
 obtain⟨Q,rfl,rfl⟩:=kN e;exact .inr ⟨v,ob,Q,rfl,fun y=>k y _ _ (JF e y).2.2⟩
theorem DT(hp:oK o.op=true)(e:dS P o N x n=some r):uI P o N x n r:=by
 obtain⟨v,Q,O⟩:=Hw hp e;exact .inl ⟨v,Q,fun y _=>O y n⟩
theorem quiet(hq:pP o.op=false)(e:dS P o N x n=some r):uI P o N x n r:=by
 by_cases hp:oK o.op=true
 . exact DT hp e
 have e0:=e;obtain⟨dst,op,ty,pos,after,guard⟩:=o;simp only at hq hp;cases op<;>simp only[pP]at hq<;>first|(cases hq;done)|skip
 all_goals first|(exact absurd rfl hp)|skip
 all_goals simp only[dS]at e
 case alloc t=>
  split at e
  . rename_i z hz;split at e
    . rename_i h' n' ho;obtain rfl:=eH e;exact uI.alloc ho fun y O m q=>by simp only[dS,hz,q]
    . cases e
  . cases e
 case box t a=>
  split at e
  . rename_i v hv;split at e
    . rename_i h' n' ho;obtain rfl:=eH e;exact uI.alloc ho fun y O m q=>by simp only[dS,hv,q]
    . cases e
  . cases e
 case buildSlice t len parts=>
  split at e
  . rename_i ps vL;unfold n8 at e;split at e
    . rename_i el he;split at e
      . rename_i s z hs hz;split at e
        . rename_i B;split at e
          . rename_i R hf;split at e
            . rename_i h' n' ho;obtain rfl:=eH e;exact uI.alloc ho fun y O m q=>by
               simp only[dS,vL,n8,he,hs,hz];rw[aG B];simp only[hf,q]
            . cases e
          . cases e
        . cases e
      . cases e
    . cases e
  . cases e
 case load t a=>
  split at e
  . rename_i v hv;obtain⟨u,Q,rfl⟩:=gi e;exact .inl ⟨u,rfl,fun y hs=>by simp only[dS,hv,Hx hs Q,kF]⟩
  . cases e
 case convert s d a=>
  split at e
  . rename_i v hv;unfold oS at e;split at e
    . rename_i Q O;obtain rfl:=eH e;exact .inl ⟨_,rfl,fun y hs=>by simp only[dS,hv,oS,Q,O]⟩
    . rename_i Q O;obtain rfl:=eH e;exact .inl ⟨_,rfl,fun y hs=>by simp only[dS,hv,oS,Q,O]⟩
    . rename_i Q O;obtain rfl:=eH e;exact .inl ⟨_,rfl,fun y hs=>by simp only[dS,hv,oS,Q,O]⟩
    . rename_i Q O;split at e
      . rename_i h3;split at e
        . rename_i h' n' ho;obtain rfl:=eH e;exact uI.alloc ho fun y Ak m q=>by simp only[dS,hv,oS,Q,O,h3,q]
        . cases e
      . cases e
    . rename_i Q O;split at e
      . rename_i h3;obtain rfl:=eH e;exact .inl ⟨_,rfl,fun y hs=>by simp only[dS,hv,oS,Q,O,h3]⟩
      . cases e
    . rename_i Q O;split at e
      . rename_i h3;obtain rfl:=eH e;exact .inl ⟨_,rfl,fun y hs=>by simp only[dS,hv,oS,Q,O,h3]⟩
      . cases e
    . rename_i Q O;split at e
      . rename_i h3;split at e
        . rename_i h4;have key:∀y:J h2,Sub x y->∀m,Ad (x.get m)=Ad (y.get m)\/x.get m=none:=fun y hs m=>by
           cases K:x.get m with
           |none=>exact .inr rfl
           |some o=>rw[hs m o K];exact .inl rfl
          have aa6:∀y:J h2,Sub x y->∀m,ur (x.get m)=ur (y.get m)\/x.get m=none:=fun y hs m=>by
           cases K:x.get m with
           |none=>exact .inr rfl
           |some o=>rw[hs m o K];exact .inl rfl
          rename_i m0 o0 at0 _ _ _;split at e
          . rename_i s0 Ju;split at e
            . rename_i hl;obtain rfl:=eH e;refine .inl ⟨_,rfl,fun y hs=>?_⟩;simp only[dS,hv,oS,Q,O,h3];rw[aG h4];rcases aa6 y hs m0 with q|q
              . rw[<- q,Ju];simp only[aG hl]
              . rw[q]at Ju;cases Ju
            . cases e
          . rename_i aho;split at e
            . rename_i Y Cg;split at e
              . rename_i hl;obtain rfl:=eH e;refine .inl ⟨_,rfl,fun y hs=>?_⟩;simp only[dS,hv,oS,Q,O,h3];rw[aG h4];rcases aa6 y hs m0 with q|q
                . rw[<- q,aho];rcases key y hs m0 with q|q
                  . rw[<- q,Cg];simp only[aG hl]
                  . rw[q]at Cg;cases Cg
                . rw[q]at Cg;cases Cg
              . cases e
            . rename_i Cg;split at e
              . obtain rfl:=eH e;refine .inl ⟨_,rfl,fun y hs=>?_⟩;simp only[dS,hv,oS,Q,O,h3];rw[aG h4];cases ur (y.get m0)with
                |some s0=>simp
                |none=>
                 cases Ad (y.get m0)with
                 |none=>rfl
                 |some Y=>simp[iy]
              . split at e
                . rename_i R K;split at e
                  . rename_i bs B;split at e
                    . rename_i X ht;obtain rfl:=eH e;refine .inl ⟨_,rfl,fun y hs=>?_⟩;simp only[dS,hv,oS,Q,O,h3];rw[aG h4];simp only[hs _ _ K,ur,Ad,B,ht]
                    . cases e
                  . cases e
                . cases e
        . cases e
      . cases e
    . cases e
  . cases e
 case makeMap t res=>
  cases res with
  |some _=>simp at e
  |none=>
   simp only at e;split at e
   . rename_i h' n' ho;obtain rfl:=eH e;exact uI.alloc ho fun y O m q=>by simp only[dS,q]
   . cases e
 case makeSlice t l c=>
  split at e
  . rename_i lv cv Q O;unfold nB at e;split at e
    . rename_i el k l0 k' c0 he;split at e
      . rename_i i z h3 h4;simp only at e;split at e
        . rename_i B;split at e
          . rename_i h' n' ho;obtain rfl:=eH e;exact uI.alloc ho fun y Ak m q=>by
             simp only[dS,Q,O,nB,he,h3,h4];rw[aG B];simp only[q]
          . cases e
        . cases e
      . cases e
    . cases e
  . cases e
 case slice t a lo hi mx=>
  split at e
  . rename_i v lov hiv mxv Q O h3 h4;obtain⟨u,h5,rfl⟩:=gi e;exact .inl ⟨u,rfl,fun y hs=>by simp only[dS,Q,O,h3,h4,Hy hs h5,kF]⟩
  . cases e
 case lookup t a k ok=>
  split at e
  . rename_i v kv Q O;obtain⟨u,h5,rfl⟩:=gi e;exact .inl ⟨u,rfl,fun y hs=>by simp only[dS,Q,O,Fu hs h5,kF]⟩
  . cases e
 case range t a=>
  split at e
  . rename_i v hv;unfold BS at e;split at e
    . rename_i s hu;split at e
      . rename_i h' n' ho;obtain rfl:=eH e;exact uI.alloc ho fun y Ak m q=>by simp only[dS,hv,BS,hu,q]
      . cases e
    . cases e
  . cases e
 case call c=>
  obtain⟨cal,args,ats⟩:=c;cases cal with
  |value f=>simp at hq
  |invoke f m=>simp at hq
  |builtin b=>
   simp only[vV]at e;split at e
   . rename_i as ha;cases b<;>simp only[]at hq<;>first|(cases hq;done)|skip
     . simp only[kW]at e;obtain⟨u,h5,rfl⟩:=gi e;exact .inl ⟨u,rfl,fun y hs=>by simp only[dS,vV,ha,kW,MH hs h5,kF]⟩
     . simp only[kW]at e;split at e
       . obtain⟨u,h5,rfl⟩:=gi e;exact .inl ⟨u,rfl,fun y hs=>by simp only[dS,vV,ha,kW,h5,kF]⟩
       . cases e
     . simp only[kW]at e;split at e
       . obtain⟨u,h5,rfl⟩:=gi e;exact .inl ⟨u,rfl,fun y hs=>by simp only[dS,vV,ha,kW,h5,kF]⟩
       . cases e
   . cases e
 all_goals (cases e)
end
end
theorem Ch(l:List Oper)(o:Oper):oU (l++[o])=oU l++[ff (oU l) o.after.toList]:=by simp[oU]
theorem vZ:∀(l:List Oper) (Ed:List Nat),(l.foldl (fun Ed o=>Ed++[ff Ed o.after.toList]) Ed).length=Ed.length+l.length
 | [],Ed=>by simp
 |o::l,Ed=>by simp only[dh];rw[vZ l];simp;omega
theorem Fv(l:List Oper):(oU l).length=l.length:=by unfold oU;rw[vZ];simp
def iH(ops:Array Oper)(j:Nat):Nat:=match ops[j]? with
 |some o=>ff (oU (ops.toList.take j)) o.after.toList
 |none=>0
theorem El{α:Type}{l:List α}{i:Nat}{o:α}(h:l[i]? =some o):l.take (i+1)=l.take i++[o]:=by
 rw[bY,h];rfl
theorem mZ(ops:Array Oper):∀i,i<=ops.size->∀k,k<i->(oU (ops.toList.take i)).getD k 0=iH ops k
 |0,_,k,W=>by omega
 |i+1,hi,k,W=>by
  have ho:ops.toList[i]? =some ops[i]:=by rw[bM];exact bf H
  rw[El ho,Ch];have hl:(oU (ops.toList.take i)).length=i:=by rw[Fv];simp;omega
  by_cases q:k<i
  . rw[ax,bD H,<- ax];exact mZ ops i H k q
  . have:k=i:=by omega
    subst this;rw[ax,cN H,hl];simp only[Nat.sub_self,cF,ck];unfold iH;rw[<- bM,ho]
theorem zi(a b i:Nat):ew (a|||b) i=(ew a i||ew b i):=Nat.testBit_or a b i
theorem Ci(k i:Nat):ew (2^k) i=decide (k=i):=Nat.testBit_two_pow
theorem je(i:Nat):ew 0 i=false:=Nat.zero_testBit i
theorem wM(eC:List Nat)(k:Nat):∀T:List Edge,ew (ff eC T) k=true↔∃e∈T,Region.binds .any e=true/\(e.on=k\/ew (eC.getD e.on 0) k=true)
 | []=>by simp[ff,je]
 |e::T=>by
  simp only[ff];by_cases hb:Region.binds .any e=true
  . rw[aG hb,zi,zi,Ci,bX,bX,wM eC k T];simp only[aY,aD];constructor
    . rintro(⟨x,Q,O,h3⟩|h|h)
      . exact⟨x,.inr Q,O,h3⟩
      . exact⟨e,.inl rfl,hb,.inl h⟩
      . exact⟨e,.inl rfl,hb,.inr h⟩
    . rintro⟨x,rfl|Q,O,h3⟩
      . exact .inr h3
      . exact .inl ⟨x,Q,O,h3⟩
  . rw[aB hb,wM eC k T];simp only[aD];constructor
    . rintro⟨x,Q,O,h3⟩;exact⟨x,.inr Q,O,h3⟩
    . rintro⟨x,rfl|Q,O,h3⟩
      . exact absurd O hb
      . exact⟨x,Q,O,h3⟩
def vw(ops:Array Oper):Prop:=∀(j:Nat) (o:Oper),ops[j]? =some o->∀e∈o.after,Region.binds .any e=true->e.on<j
section
variable{ops:Array Oper}
theorem x7(he:vw ops){j k:Nat}{o:Oper}(ho:ops[j]? =some o):
  ew (iH ops j) k=true↔∃e∈o.after,Region.binds .any e=true/\(e.on=k\/ew (iH ops e.on) k=true):=by
 have hj:j<ops.size:=(aW.1 ho).1;unfold iH;simp only[ho];rw[wM];constructor
 . rintro⟨e,Q,O,h3⟩;have oG:e∈o.after:=by simpa using Q
   have eO:=he j o ho e oG O;refine⟨e,oG,O,h3.imp id fun q=>?_⟩;rw[mZ ops j H e.on eO]at q;exact q
 . rintro⟨e,Q,O,h3⟩;have eO:=he j o ho e Q O;refine⟨e,by simpa using Q,O,h3.imp id fun q=>?_⟩;rw[mZ ops j H e.on eO];exact q
theorem JG(he:vw ops):∀j k,ew (iH ops j) k=true->k<j:=by
 intro j
 induction j using Nat.strongRecOn with
 |_ j ih=>
  intro k h;cases ho:ops[j]? with
  |none=>simp[iH,ho,je]at h
  |some o=>
   obtain⟨e,Q,O,h3⟩:=(x7 he ho).1 h;have eO:=he j o ho e Q O;rcases h3 with rfl|h3
   . exact eO
   . exact Nat.lt_trans (ih e.on eO k h3) eO
theorem Em(he:vw ops):∀j i k,ew (iH ops j) i=true->ew (iH ops i) k=true->ew (iH ops j) k=true:=by
 intro j
 induction j using Nat.strongRecOn with
 |_ j ih=>
  intro i k h h';cases ho:ops[j]? with
  |none=>simp[iH,ho,je]at h
  |some o=>
   obtain⟨e,Q,O,h3⟩:=(x7 he ho).1 h;have eO:=he j o ho e Q O;refine(x7 he ho).2 ⟨e,Q,O,.inr ?_⟩;rcases h3 with rfl|h3
   . exact h'
   . exact ih e.on eO i k h3 h'
theorem Cj(he:vw ops){fm:Nat->Prop}(hS:∀j o,fm j->ops[j]? =some o->∀e∈o.after,Region.binds .any e=true->fm e.on):
  ∀j k,fm j->ew (iH ops j) k=true->fm k:=by
 intro j
 induction j using Nat.strongRecOn with
 |_ j ih=>
  intro k hj h;cases ho:ops[j]? with
  |none=>simp[iH,ho,je]at h
  |some o=>
   obtain⟨e,Q,O,h3⟩:=(x7 he ho).1 h;have hs:=hS j o hj ho e Q O;rcases h3 with rfl|h3
   . exact hs
   . exact ih e.on (he j o ho e Q O) k hs h3
end
structure k8(ops:Array Oper)(fr:Nat):Prop where
 v7:vw ops
 dst:∀(j:Nat) (o:Oper),ops[j]? =some o->mX fr o.dst
 one:∀(i j:Nat) (o q:Oper) (t:Nat),ops[i]? =some o->ops[j]? =some q->o.dst=some t->q.dst=some t->i=j
 use:∀(i j:Nat) (o q:Oper) (t:Nat),ops[i]? =some o->ops[j]? =some q->i≠j->o.dst=some t->t∈uA ops q->if i<j then ew (iH ops j) i=true else ew (iH ops i) j=true
theorem Ck{ops:Array Oper}{fr:Nat}(h:Oe ops fr=true):k8 ops fr:=by
 unfold Oe at h;rw[br]at h;have at_:∀j o,ops[j]? =some o->(o.after.toList.all (fun e=>!Region.binds .any e||decide (e.on<j))=true/\(match o.dst with|some d=>decide (d<fr)|none=>true)=true/\
   ∀i,i<ops.size->i≠j->Fe ops (oU ops.toList) i j=true):=by
  intro j o ho;have hj:j<ops.size:=(aW.1 ho).1;have:=h j (bL.2 hj);simp only[ho,ay,br,bL]at this;obtain⟨⟨Q,O⟩,h3⟩:=this;refine⟨by rw[br];exact Q,O,fun i hi iV=>?_⟩;have:=h3 i hi;simp only[bX]at this;rcases this with q|q
  . exact absurd (aA q) iV
  . exact q
 have K:∀j,j<ops.size->(oU ops.toList).getD j 0=iH ops j:=fun j hj=>by
  have:=mZ ops ops.size (aK _) j hj;rwa [show ops.toList.take ops.size=ops.toList from by rw[cW];simp]at this
 refine⟨?_,?_,?_,?_⟩
 . intro j o ho e he hb;obtain⟨Q,_,_⟩:=at_ j o ho;rw[br]at Q;have:=Q e (by simpa using he);simp only[hb,Bool.not_true,cr,aY]at this;exact this
 . intro j o ho d hd;obtain⟨_,O,_⟩:=at_ j o ho;rw[hd]at O;simpa using O
 . intro i j o q t hi hj ho hq;by_cases e:i=j
   . exact e
   . obtain⟨_,_,h3⟩:=at_ j q hj;have:=h3 i (aW.1 hi).1 e;simp only[Fe,hi,hj,ho,hq,ay,bV]at this;have Q:=this.1;rw[Nat.beq_refl]at Q;cases Q
 . intro i j o q t hi hj iV ho ht;obtain⟨_,_,h3⟩:=at_ j q hj;have hil:=(aW.1 hi).1;have NQ:=(aW.1 hj).1;have:=h3 i hil iV;have B:(uA ops q).contains t=true:=by simpa using ht
   simp only[Fe,hi,hj,ho,ay,B,if_true,K i hil,K j NQ]at this;have O:=this.2;split
   . rename_i q;rw[aG q]at O;exact O
   . rename_i q;rw[aB q]at O;exact O
abbrev uh:=Nat×Nat×J h2×Nat
def eI(h0:J h2)(c0:Nat)(dL:List uh):Nat->Nat×J h2×Nat
 |0=>(0,h0,c0)
 |c+1=>match dL[c]? with
  |some e=>e.2
  |none=>(0,h0,c0)
section
variable{h0:J h2}{c0:Nat}{dL:List uh}{e:uh}
theorem pY{c:Nat}(h:c<=dL.length):eI h0 c0 (dL++[e]) c=eI h0 c0 dL c:=by
 cases c with
 |zero=>rfl
 |succ c=>simp only[eI];rw[bD H]
theorem wN:eI h0 c0 (dL++[e]) (dL.length+1)=e.2:=by
 simp[eI]
end
def sW(h0:J h2)(c0:Nat)(dL:List uh):Nat->List (Nat×Nat×J h2)
 |0=>[]
 |c+1=>match dL[c]? with
  |some e=>(e.1,(eI h0 c0 dL c).1,(eI h0 c0 dL c).2.1)::sW h0 c0 dL c
  |none=>sW h0 c0 dL c
theorem Ao{h0:J h2}{c0:Nat}{dL:List uh}{e:uh}:∀c,c<=dL.length->sW h0 c0 (dL++[e]) c=sW h0 c0 dL c
 |0,_=>rfl
 |c+1,h=>by
  simp only[sW];rw[bD H,pY H,Ao c H]
structure zj(ops:Array Oper)(kT:J V)(val:Nat->V)(j:Nat)(N:J V):Prop where
 new:∀(i:Nat) (o:Oper) (t:Nat),i<j->ops[i]? =some o->o.dst=some t->N.get t=some (val i)
 old:∀(t:Nat),(∀(i:Nat) (o:Oper),i<j->ops[i]? =some o->o.dst≠some t)->N.get t=kT.get t
section
variable(P:Program)(cf:fO)(ops:Array Oper)(F:Nat)(h0:J h2)(kT:J V)
def uJ(val:Nat->V)(dA:af)(reads:List (Nat×Nat×Oper×J V×V))(dL:List uh)(j:Nat)(o:Oper):Prop:=
 ∃N,zj ops kT val j N/\
  ((fT ops o N=some false/\val j= .gw []) \/
   (fT ops o N=some true/\pP o.op=false/\(∃b,(j,b)∈dA/\F+j<fZ/\∀y,dS P o N y (F+j)=some (.val (val j) (y.set (F+j) (some b)) (F+j+1)))) \/
   (fT ops o N=some true/\pP o.op=false/\(∀y,dS P o N y (F+j)=some (.val (val j) y (F+j)))) \/
   (fT ops o N=some true/\pP o.op=false/\(j,iH ops j,o,N,val j)∈reads/\
    ∀c,c<=dL.length->(∀(c':Nat) (e:uh),c<=c'->dL[c']? =some e->ew (iH ops j) e.1=false)->(∀(c':Nat) (e:uh),c'<c->dL[c']? =some e->ew e.2.1 j=false)->
     ∃y,dS P o N (gC F dA (eI h0 (F+ops.size) dL c).1 (eI h0 (F+ops.size) dL c).2.1 (iH ops j)) (F+j)=some (.val (val j) y (F+j))) \/
   (fT ops o N=some true/\pP o.op=true/\∃c h n,dL[c]? =some (j,iH ops j,h,n)/\
    (let x:=eI h0 (F+ops.size) dL c
     (dS P o N (gC F dA x.1 x.2.1 (iH ops j)) x.2.2=some (.val (val j) h n)) \/
     ∃f args,dS P o N (gC F dA x.1 x.2.1 (iH ops j)) x.2.2=some (.call f args)/\cf f args (gC F dA x.1 x.2.1 (iH ops j)) x.2.2=some (.ret (val j),h,n))))
def rO(val:Nat->V)(j:Nat)(o:Oper)(b:h2):Prop:=
 ∃N,zj ops kT val j N/\fT ops o N=some true/\pP o.op=false/\F+j<fZ/\b.wr=true/\∀y,dS P o N y (F+j)=some (.val (val j) (y.set (F+j) (some b)) (F+j+1))
structure mC(val:Nat->V)(dL:List uh)(i:Nat)(d:Dr):Prop where
 eC:d.eC=oU (ops.toList.take i)
 N:zj ops kT val i d.N
 cur:d.cur=((eI h0 (F+ops.size) dL dL.length).1,(eI h0 (F+ops.size) dL dL.length).2.1)
 n:d.n=(eI h0 (F+ops.size) dL dL.length).2.2
 od:d.od=sW h0 (F+ops.size) dL dL.length
 last:d.last=(dL.getLast?).map (·.1)
 tP:∀(c:Nat) (e:uh),dL[c]? =some e->e.1<i/\∃o:Oper,ops[e.1]? =some o/\pP o.op=true/\e.2.1=iH ops e.1
 dA:∀x∈d.dA,x.1<i
 one:∀(j:Nat) (b b':h2),(j,b)∈d.dA->(j,b')∈d.dA->b=b'
 zk:∀(c:Nat) (e:uh) (o:Oper),dL[c]? =some e->ops[e.1]? =some o->∃N,zj ops kT val e.1 N/\fT ops o N=some true
 Bm:∀(j:Nat) (o:Oper) (b:h2),(j,b)∈d.dA->ops[j]? =some o->rO P ops F kT val j o b
 chain:∀(c c':Nat) (e e':uh),c'<c->dL[c]? =some e->dL[c']? =some e'->ew (iH ops e.1) e'.1=true
 Wk:∀(j:Nat) (o:Oper),j<i->ops[j]? =some o->uJ P cf ops F h0 kT val d.dA d.reads dL j o
end
mutual
theorem SE:∀(a b:D),D.beq a b=true->a=b
 | .bool a,b,h=>by cases b<;>simp[D.beq]at h;rw[h]
 | .int k a,b,h=>by cases b<;>simp[D.beq]at h;rw[h.1,h.2]
 | .str a,b,h=>by
   cases b<;>simp only[D.beq]at h<;>first|(cases h;done)|skip
   rw[kA]at h;rw[eq_of_beq h]
 | .eB n a,b,h=>by
   cases b<;>simp only[D.beq]at h<;>first|(cases h;done)|skip
   simp only[ay]at h;rw[aA h.1,uK _ _ h.2]
 | .agg a,b,h=>by
   cases b<;>simp only[D.beq]at h<;>first|(cases h;done)|skip
   rw[uK _ _ h]
theorem uK:∀(a b:ai),D.o5 a b=true->a=b
 | [],b,h=>by cases b<;>simp[D.o5]at h;rfl
 |x::xs,b,h=>by
  cases b with
  |nil=>simp[D.o5]at h
  |cons y ys=>
   simp only[D.o5,ay]at h;rw[SE x y h.1,uK xs ys h.2]
end
mutual
theorem MI:∀(a:D),D.beq a a=true
 | .bool a=>by simp[D.beq]
 | .int k a=>by simp[D.beq]
 | .str a=>by simp only[D.beq];rw[kA];simp
 | .eB n a=>by simp only[D.beq,Nat.beq_refl,pZ a,Bool.and_self]
 | .agg a=>by simp only[D.beq,pZ a]
theorem pZ:∀(a:ai),D.o5 a a=true
 | []=>rfl
 |x::xs=>by simp only[D.o5,MI x,pZ xs,Bool.and_self]
end
mutual
theorem beq_eq:∀(a b:V),V.beq a b=true->a=b
 | .bool a,b,h=>by cases b<;>simp[V.beq]at h;rw[h]
 | .int k a,b,h=>by cases b<;>simp[V.beq]at h;rw[h.1,h.2]
 | .str a,b,h=>by
   cases b<;>simp only[V.beq]at h<;>first|(cases h;done)|skip
   rw[kA]at h;rw[eq_of_beq h]
 | .ptr a,b,h=>by
   cases b<;>simp only[V.beq]at h<;>first|(cases h;done)|skip
   rw[Cl _ _ h]
 | .eR a l c e,b,h=>by
   cases b<;>simp only[V.beq]at h<;>first|(cases h;done)|skip
   simp only[ay]at h;obtain⟨⟨⟨Q,O⟩,h3⟩,h4⟩:=h;rw[Cl _ _ Q,aA O,aA h3,aA h4]
 | .map a,b,h=>by
   cases b<;>simp only[V.beq]at h<;>first|(cases h;done)|skip
   rename_i c;cases a<;>cases c<;>simp only[Fb]at h<;>first|(cases h;done)|skip
   . rfl
   . rw[aA h]
 | .fn f a c,b,h=>by
   cases b<;>simp only[V.beq]at h<;>first|(cases h;done)|skip
   rename_i g b d;simp only[ay]at h;obtain⟨⟨Q,O⟩,h3⟩:=h;rw[sX a b O,sX c d h3];cases f<;>cases g<;>simp only[Od]at Q<;>first|(cases Q;done)|skip
   all_goals rw[aA Q]
 | .kG,b,h=>by cases b<;>simp only[V.beq]at h<;>first|(cases h;done)|rfl
 | .iface t x,b,h=>by
   cases b<;>simp only[V.beq]at h<;>first|(cases h;done)|skip
   rename_i u y;simp only[ay]at h;rw[aA h.1,beq_eq x y h.2]
 | .nilIface,b,h=>by cases b<;>simp only[V.beq]at h<;>first|(cases h;done)|rfl
 | .agg a,b,h=>by
   cases b<;>simp only[V.beq]at h<;>first|(cases h;done)|skip
   rw[sX _ _ h]
 | .gw a,b,h=>by
   cases b<;>simp only[V.beq]at h<;>first|(cases h;done)|skip
   rw[sX _ _ h]
 | .eB f n a,b,h=>by
   cases b<;>simp only[V.beq]at h<;>first|(cases h;done)|skip
   simp only[ay,cG]at h;rw[h.1,aA h.2.1,uK _ _ h.2.2]
 | .dx a,b,h=>by
   cases b<;>simp only[V.beq]at h<;>first|(cases h;done)|skip
   rw[uK _ _ h]
theorem sX:∀(a b:ag),V.o5 a b=true->a=b
 | [],b,h=>by cases b<;>simp only[V.o5]at h<;>first|(cases h;done)|rfl
 |x::xs,b,h=>by
  cases b<;>simp only[V.o5]at h<;>first|(cases h;done)|skip
  simp only[ay]at h;rw[beq_eq x _ h.1,sX xs _ h.2]
theorem Cl:∀(a b:Option (Nat×Nat)),qA a b=true->a=b
 |none,b,h=>by cases b<;>simp only[qA]at h<;>first|(cases h;done)|rfl
 |some (x,y),b,h=>by
  cases b<;>simp only[qA]at h<;>first|(cases h;done)|skip
  simp only[ay]at h;rw[aA h.1,aA h.2]
end
theorem x8{P:Program}{F i:Nat}{o:Oper}{N:J V}{v:V}{x:J h2}(h:mq P F i o N v x=true):∃y,dS P o N x (F+i)=some (.val v y (F+i)):=by
 unfold mq at h;split at h
 . rename_i u y k e;simp only[ay]at h;have Q:=aA h.1;have O:=beq_eq _ _ h.2;subst Q;subst O;exact⟨y,e⟩
 . cases h
theorem MJ{F i:Nat}{b:h2}{l:af}{m:Nat}{x:J h2}{ik:Nat}(h:ew ik i=false):gC F ((i,b)::l) m x ik=gC F l m x ik:=by
 simp[gC,h]
theorem En{P:Program}{F i:Nat}{o:Oper}{N:J V}{v:V}{dA:af}{ik:Nat}{h0:J h2}{c0:Nat}{dL:List uh}:
  ∀k,k<=dL.length->pQ P F i o N v dA ik (sW h0 c0 dL k)=true->∀c,c<k->(∀(c':Nat) (e:uh),c<=c'->c'<k->dL[c']? =some e->ew ik e.1=false)->
   ∃y,dS P o N (gC F dA (eI h0 c0 dL c).1 (eI h0 c0 dL c).2.1 ik) (F+i)=some (.val v y (F+i))
 |0,_,_,c,B,_=>by omega
 |k+1,W,h,c,B,hn=>by
  have he:dL[k]? =some dL[k]:=au H;simp only[sW,he,pQ]at h;have hb:=hn k dL[k] H H he;rw[hb]at h;simp only[aM,cz,ay]at h;by_cases q:c=k
  . subst q;exact x8 h.1
  . exact En k H h.2 c H fun c' e Q O h3=>hn c' e Q H h3
theorem Cm{P:Program}{F:Nat}{dA:af}{m:Nat}{x:J h2}:∀(l:List (Nat×Nat×Oper×J V×V)),o6 P F dA m x l=true->
  ∀j ik o N v,(j,ik,o,N,v)∈l->ew m j=false->∃y,dS P o N (gC F dA m x ik) (F+j)=some (.val v y (F+j))
 | [],_,j,ik,o,N,v,K,_=>by simp at K
 |(j',at5,o',fr',v')::l,h,j,ik,o,N,v,K,hb=>by
  simp only[o6,ay,bX]at h;rcases aD.1 K with q|q
  . cases q;rcases h.1 with Q|Q
    . rw[hb]at Q;cases Q
    . exact x8 Q
  . exact Cm l h.2 j ik o N v q hb
section
variable{P:Program}{cf:fO}{ops:Array Oper}{F fr:Nat}{h0:J h2}{kT:J V}
theorem zj.mono{val iq:Nat->V}{j:Nat}{N:J V}(h:zj ops kT val j N)(hv:∀k,k<j->iq k=val k):zj ops kT iq j N:=
 ⟨fun i o t hi ho hd=>by rw[hv i hi];exact h.new i o t hi ho hd,h.old⟩
theorem zj.step{val iq:Nat->V}{i:Nat}{N fr':J V}{o:Oper}{v:V}(hr:k8 ops fr)(ho:ops[i]? =some o)(h:zj ops kT val i N)(hv:∀k,k<i->iq k=val k)(hi:iq i=v)
  (e:jw N o.dst v=some fr'):zj ops kT iq (i+1) fr':=by
 have h':=h.mono hv;cases hd:o.dst with
 |none=>
  rw[hd]at e;simp only[jw,aq]at e;subst e;refine⟨fun k q t W hq ht=>?_,fun t ht=>h'.old t fun k q W hq=>ht k q H hq⟩;by_cases c:k=i
  . subst c;rw[ho]at hq;cases hq;rw[hd]at ht;cases ht
  . exact h'.new k q t H hq ht
 |some d=>
  rw[hd]at e;simp only[jw]at e;split at e
  . rename_i gL;obtain rfl:=eH e;refine⟨fun k q t W hq ht=>?_,fun t ht=>?_⟩
    . by_cases c:k=i
      . subst c;rw[ho]at hq;cases hq;rw[hd]at ht;cases ht;rw[J.pb _ _ gL,hi]
      . have iV:t≠d:=by
         intro q';subst q';exact c (hr.one k i q o t hq ho ht hd)
        rw[J.wB _ _ gL iV];exact h'.new k q t H hq ht
    . have iV:t≠d:=by intro q;subst q;exact ht i o H ho hd
      rw[J.wB _ _ gL iV];exact h'.old t fun k q W hq=>ht k q H hq
  . cases e
theorem Wl{he:vw ops}{j i:Nat}(h:j<=i):ew (iH ops j) i=false:=by
 cases q:ew (iH ops j) i with
 |false=>rfl
 |true=>have:=JG he j i q;omega
theorem rO.mono{val iq:Nat->V}{j:Nat}{o:Oper}{b:h2}(h:rO P ops F kT val j o b)(hv:∀k,k<=j->iq k=val k):rO P ops F kT iq j o b:=by
 obtain⟨N,f1,f2,f3,f4,f6,f5⟩:=h;exact⟨N,f1.mono fun k W=>hv k H,f2,f3,f4,f6,fun y=>by rw[hv j (aK _)];exact f5 y⟩
theorem uJ.quiet{val iq:Nat->V}{dA kQ:af}{reads wO:List (Nat×Nat×Oper×J V×V)}{dL:List uh}{j:Nat}{o:Oper}
  (h:uJ P cf ops F h0 kT val dA reads dL j o) (hv:∀k,k<=j->iq k=val k) (ha:∀x∈dA,x∈kQ) (hr:∀x∈reads,x∈wO)
  (Eo:∀m x,gC F kQ m x (iH ops j)=gC F dA m x (iH ops j)):uJ P cf ops F h0 kT iq kQ wO dL j o:=by
 obtain⟨N,f1,f2⟩:=h;refine⟨N,f1.mono fun k W=>hv k H,?_⟩;have hj:=hv j (aK _);rw[hj];rcases f2 with q|⟨q1,q2,b,q3,q4,q5⟩|q|⟨q1,q2,q3,q4⟩|⟨q1,q2,c,h,n,q3,q4⟩
 . exact .inl q
 . exact .inr (.inl ⟨q1,q2,b,ha _ q3,q4,q5⟩)
 . exact .inr (.inr (.inl q))
 . refine .inr (.inr (.inr (.inl ⟨q1,q2,hr _ q3,fun c B Q O=>?_⟩)));rw[Eo];exact q4 c B Q O
 . refine .inr (.inr (.inr (.inr ⟨q1,q2,c,h,n,q3,?_⟩)));simp only[Eo];exact q4
theorem uJ.effect{val iq:Nat->V}{dA:af}{reads:List (Nat×Nat×Oper×J V×V)}{dL:List uh}{e:uh}{j:Nat}{o:Oper}
  (h:uJ P cf ops F h0 kT val dA reads dL j o) (hv:∀k,k<=j->iq k=val k) (mc:o6 P F dA e.2.1 e.2.2.1 reads=true):
  uJ P cf ops F h0 kT iq dA reads (dL++[e]) j o:=by
 obtain⟨N,f1,f2⟩:=h;refine⟨N,f1.mono fun k W=>hv k H,?_⟩;have hj:=hv j (aK _);rw[hj];rcases f2 with q|q|q|⟨q1,q2,q3,q4⟩|⟨q1,q2,c,h,n,q3,q4⟩
 . exact .inl q
 . exact .inr (.inl q)
 . exact .inr (.inr (.inl q))
 . refine .inr (.inr (.inr (.inl ⟨q1,q2,q3,fun c B Q O=>?_⟩)));simp only[aE,aP,bW]at B;by_cases cl:c<=dL.length
   . rw[pY cl];refine q4 c cl (fun c' e' JH AZ=>Q c' e' JH ?_) (fun c' e' JH AZ=>O c' e' JH ?_)
     . rw[bD (aR.1 AZ).1];exact AZ
     . rw[bD (aR.1 AZ).1];exact AZ
   . have vY:c=dL.length+1:=by omega
     subst vY;rw[wN];exact Cm reads mc j _ o N _ q3 (O dL.length e H (by simp))
 . have B:=(aR.1 q3).1;refine .inr (.inr (.inr (.inr ⟨q1,q2,c,h,n,by rw[bD B];exact q3,?_⟩)));rw[pY H];exact q4
theorem MK{val:Nat->V}{dL:List uh}{i:Nat}{d:Dr}(hr:k8 ops fr)(f:mC P cf ops F h0 kT val dL i d)(hl:yY (iH ops i) d.last=true):
  ∀(c:Nat) (e:uh),dL[c]? =some e->ew (iH ops i) e.1=true:=by
 intro c e he;have B:=(aR.1 he).1;rw[f.last]at hl;have hg:dL.getLast? =some (dL[dL.length-1]'(by omega)):=by
  rw[List.getLast?_eq_getElem?,au]
 rw[hg]at hl;simp only[bw,yY]at hl;by_cases q:c=dL.length-1
 . subst q;rw[au H]at he;cases he;exact hl
 . exact Em hr.v7 i _ _ hl (f.chain (dL.length-1) c _ e H (au H) he)
theorem Ep{val:Nat->V}{dL:List uh}{i:Nat}{d d':Dr}{o:Oper}{v:V}{h:J h2}{n:Nat}(hr:k8 ops fr)(ho:ops[i]? =some o)(f:mC P cf ops F h0 kT val dL i d)
  (hw:fT ops o d.N=some true) (Cn:pP o.op=true) (hl:yY (iH ops i) d.last=true) (ha:kH P F i (iH ops i) o d v h n=some d')
  (K:oU (ops.toList.take (i+1))=d.eC++[iH ops i])
  (run:(dS P o d.N (gC F d.dA d.cur.1 d.cur.2 (iH ops i)) d.n=some (.val v h n)) \/
   ∃g args,dS P o d.N (gC F d.dA d.cur.1 d.cur.2 (iH ops i)) d.n=some (.call g args)/\cf g args (gC F d.dA d.cur.1 d.cur.2 (iH ops i)) d.n=some (.ret v,h,n)):
  ∃iq p6,mC P cf ops F h0 kT iq p6 (i+1) d':=by
 unfold kH at ha;split at ha
 . rename_i N hp;split at ha
   . rename_i mc;obtain rfl:=eH ha
     let iq:Nat->V:=fun k=>if k=i then v else val k
     have Hz:iq i=v:=by simp[iq]
     have hv:∀k,k<i->iq k=val k:=fun k W=>by simp[iq,show k≠i by omega]
     refine⟨iq,dL++[(i,iH ops i,h,n)],?_⟩;have jx:(dL++[(i,iH ops i,h,n)]).length=dL.length+1:=by simp
     refine⟨K.symm,f.N.step hr ho hv Hz hp,?_,?_,?_,by simp,?_,fun x I=>by have:=f.dA x I;omega,f.one,fun c e q he hq=>?_,fun j q b hb hq=>(f.Bm j q b hb hq).mono fun k W=>hv k (by have:=f.dA _ hb;simp at this;omega),?_,?_⟩
     . rw[jx,wN]
     . rw[jx,wN]
     . rw[jx];simp only[sW];rw[cN H];simp only[Nat.sub_self,cF];rw[pY (aK _),Ao _ (aK _),<- f.od,f.cur]
     . intro c e he;by_cases q:c<dL.length
       . rw[bD q]at he;obtain⟨Q,O⟩:=f.tP c e he;exact⟨H,O⟩
       . have B:=(aR.1 he).1;simp at B;have:c=dL.length:=by omega
         subst this;simp at he;subst he;exact⟨by simp,o,ho,Cn,rfl⟩
     . by_cases q2:c<dL.length
       . rw[bD q2]at he;obtain⟨Q,_⟩:=f.tP c e he;obtain⟨JI,g1,g2⟩:=f.zk c e q he hq;exact⟨JI,g1.mono fun k W=>hv k H,g2⟩
       . have B:=(aR.1 he).1;simp at B;have:c=dL.length:=by omega
         subst this;simp at he;subst he;simp only at hq;rw[ho]at hq;cases hq;exact⟨d.N,f.N.mono hv,hw⟩
     . intro c c' e e' OG he AZ;have B:=(aR.1 he).1;simp at B;have JH:c'<dL.length:=by omega
       rw[bD JH]at AZ;by_cases q:c<dL.length
       . rw[bD q]at he;exact f.chain c c' e e' OG he AZ
       . have:c=dL.length:=by omega
         subst this;simp at he;subst he;exact MK hr f hl c' e' AZ
     . intro j q hj hq;by_cases c:j=i
       . subst c;rw[ho]at hq;cases hq;refine⟨d.N,f.N.mono hv,.inr (.inr (.inr (.inr ⟨hw,Cn,dL.length,h,n,by simp,?_⟩)))⟩;rw[pY (aK _),Hz];have aa7:=f.cur;have hn:=f.n;have e1:d.cur.1=(eI h0 (F+ops.size) dL dL.length).1:=by rw[aa7]
         have e2:d.cur.2=(eI h0 (F+ops.size) dL dL.length).2.1:=by rw[aa7]
         rw[e1,e2,hn]at run;exact run
       . exact(f.Wk j q H hq).effect (fun k W=>hv k H) mc
   . cases ha
 . cases ha
theorem Co{val:Nat->V}{dL:List uh}{i:Nat}{d d':Dr}{o:Oper}(hr:k8 ops fr)(ho:ops[i]? =some o)(f:mC P cf ops F h0 kT val dL i d)
  (e:lP P cf ops F i o d=some (.inl d')):∃iq p6,mC P cf ops F h0 kT iq p6 (i+1) d':=by
 have hi:i<ops.size:=(aW.1 ho).1;have A6:ff d.eC o.after.toList=iH ops i:=by rw[f.eC];unfold iH;rw[ho]
 have K:oU (ops.toList.take (i+1))=d.eC++[iH ops i]:=by
  rw[El (by rw[bM];exact ho),Ch,<- f.eC,A6]
 unfold lP at e;simp only[A6]at e;have vx:∀(v:V) (N:J V) (kQ:af) (wO:List (Nat×Nat×Oper×J V×V)),jw d.N o.dst v=some N->(∀x∈d.dA,x∈kQ)->(∀x∈d.reads,x∈wO)->
   (∀j m x,j<=i->gC F kQ m x (iH ops j)=gC F d.dA m x (iH ops j))->(∀x∈kQ,x.1<i+1)->(∀j b b',(j,b)∈kQ->(j,b')∈kQ->b=b')->
   (∀iq,(∀k,k<i->iq k=val k)->iq i=v->∀b,(i,b)∈kQ->rO P ops F kT iq i o b)->(∀x∈kQ,x.1≠i->x∈d.dA)->
   (∀iq,(∀k,k<i->iq k=val k)->iq i=v->uJ P cf ops F h0 kT iq kQ wO dL i o)->
   ∃iq p6,mC P cf ops F h0 kT iq p6 (i+1) { d with N:=N,eC:=d.eC++[iH ops i],dA:=kQ,reads:=wO }:=by
  intro v N kQ wO hp ha hrd Eo hai Jt hal ahp pc
  let iq:Nat->V:=fun k=>if k=i then v else val k
  have Hz:iq i=v:=by simp[iq]
  have hv:∀k,k<i->iq k=val k:=fun k W=>by simp[iq,show k≠i by omega]
  refine⟨iq,dL,⟨K.symm,f.N.step hr ho hv Hz hp,f.cur,f.n,f.od,f.last,fun c e he=>?_,hai,Jt,fun c e q he hq=>?_,fun j q b hb hq=>?_,f.chain,fun j q hj hq=>?_⟩⟩
  . obtain⟨Q,O⟩:=f.tP c e he;exact⟨H,O⟩
  . obtain⟨Q,_⟩:=f.tP c e he;obtain⟨JI,g1,g2⟩:=f.zk c e q he hq;exact⟨JI,g1.mono fun k W=>hv k H,g2⟩
  . by_cases c:j=i
    . subst c;rw[ho]at hq;cases hq;exact hal iq hv Hz b hb
    . have Bn:=ahp _ hb c;exact(f.Bm j q b Bn hq).mono fun k W=>hv k (by have:=f.dA _ Bn;simp at this;omega)
  . by_cases c:j=i
    . subst c;rw[ho]at hq;cases hq;exact pc iq hv Hz
    . exact(f.Wk j q H hq).quiet (fun k W=>hv k H) ha hrd fun m x=>Eo j m x H
 have e1:d.cur.1=(eI h0 (F+ops.size) dL dL.length).1:=by rw[f.cur]
 have e2:d.cur.2=(eI h0 (F+ops.size) dL dL.length).2.1:=by rw[f.cur]
 split at e
 . rename_i hw;split at e
   . rename_i N hp;simp only[aq,Sum.inl.injEq]at e;subst e;exact vx (.gw []) N d.dA d.reads hp (fun _ h=>h) (fun _ h=>h) (fun _ _ _ _=>rfl) (fun x I=>by have:=f.dA x I;omega) f.one (fun _ _ _ b hb=>by have:=f.dA _ hb;simp at this) (fun _ I _=>I)
      fun iq hv Hz=>⟨d.N,f.N.mono hv,.inl ⟨hw,Hz⟩⟩
   . cases e
 . rename_i hw;split at e
   . rename_i Cn;split at e
     . rename_i hl;split at e
       . rename_i v h n hs;split at e
         . rename_i X ha;simp only[aq,Sum.inl.injEq]at e;subst e;exact Ep hr ho f hw Cn hl ha K (.inl hs)
         . cases e
       . rename_i g args hs;split at e
         . rename_i v h n B;split at e
           . rename_i X ha;simp only[aq,Sum.inl.injEq]at e;subst e;exact Ep hr ho f hw Cn hl ha K (.inr ⟨g,args,hs,B⟩)
           . cases e
         . split at e
           . cases e
           . cases e
         . cases e
       . cases e
     . cases e
   . rename_i Cn;have HA:pP o.op=false:=by simpa using Cn
     split at e
     . rename_i v h k hs;split at e
       . rename_i N hp;have hq:=quiet HA hs;split at e
         . rename_i W;have oV:=aA W;subst oV;split at e
           . rename_i aa8;simp only[aq,Sum.inl.injEq]at e;subst e;obtain⟨u,Q,O⟩:=Hw aa8 hs;cases Q;exact vx v N d.dA d.reads hp (fun _ h=>h) (fun _ h=>h) (fun _ _ _ _=>rfl) (fun x I=>by have:=f.dA x I;omega) f.one (fun _ _ _ b hb=>by have:=f.dA _ hb;simp at this) (fun _ I _=>I)
              fun iq hv Hz=>⟨d.N,f.N.mono hv,.inr (.inr (.inl ⟨hw,HA,fun y=>by rw[Hz];exact O y _⟩))⟩
           . split at e
             . rename_i od;simp only[aq,Sum.inl.injEq]at e;subst e;refine vx v N d.dA ((i,iH ops i,o,d.N,v)::d.reads) hp (fun _ h=>h) (fun x I=>by simp[I]) (fun _ _ _ _=>rfl) (fun x I=>by have:=f.dA x I;omega) f.one (fun _ _ _ b hb=>by have:=f.dA _ hb;simp at this) (fun _ I _=>I)
                fun iq hv Hz=>⟨d.N,f.N.mono hv,.inr (.inr (.inr (.inl ⟨hw,HA,by simp[Hz],fun c B Q _=>?_⟩)))⟩
               rw[Hz];by_cases q:c=dL.length
               . subst q;rw[<- e1,<- e2];exact⟨h,hs⟩
               . rw[f.od]at od;exact En dL.length (aK _) od c H fun c' e' q1 _ q3=>Q c' e' q1 q3
             . cases e
         . rename_i W;split at e
           . rename_i b hb;split at e
             case isFalse=>cases e
             rename_i hwr;simp only[aq,Sum.inl.injEq]at e;subst e;rcases hq with⟨u,Q,_⟩|⟨u,b',Q,O,h3⟩
             . cases Q;exact absurd (Nat.beq_refl _) W
             . cases O;rw[J.pb _ _ Q]at hb;cases hb;refine vx v N ((i,b)::d.dA) d.reads hp (fun x I=>by simp[I]) (fun _ h=>h) (fun j m x hj=>MJ (Wl (he:=hr.v7) hj)) (fun x I=>?_) (fun j c c' B JH=>?_) (fun iq hv Hz c B=>?_) (fun x I iV=>?_)
                fun iq hv Hz=>⟨d.N,f.N.mono hv,.inr (.inl ⟨hw,HA,b,by simp,Q,fun y=>by rw[Hz];exact h3 y⟩)⟩
               . rcases aD.1 I with rfl|I
                 . simp
                 . have:=f.dA x I;omega
               . rcases aD.1 B with q|q<;>rcases aD.1 JH with q'|q'
                 . cases q;cases q';rfl
                 . cases q;have:=f.dA _ q';simp at this
                 . cases q';have:=f.dA _ q;simp at this
                 . exact f.one j c c' q q'
               . rcases aD.1 B with q|q
                 . cases q;exact⟨d.N,f.N.mono hv,hw,HA,Q,hwr,fun y=>by rw[Hz];exact h3 y⟩
                 . have:=f.dA _ q;simp at this
               . rcases aD.1 I with q|q
                 . cases q;exact absurd rfl iV
                 . exact q
           . cases e
       . cases e
     . cases e
 . cases e
theorem wP(N:J V)(h:J h2):mC P cf ops F h N (fun _=>.kG) [] 0 { N:=N,eC:=[],cur:=(0,h),od:=[],last:=none,dA:=[],reads:=[],n:=F+ops.size }:=by
 refine⟨by simp[oU],⟨fun i o t hi=>by omega,fun t _=>rfl⟩,rfl,rfl,rfl,rfl,fun c e he=>by simp at he,fun x I=>by simp at I,fun j b b' hb=>by simp at hb,fun c e o he=>by simp at he,fun j o b hb=>by simp at hb,fun c c' e e' _ he=>by simp at he,fun j o hj=>by omega⟩
theorem Er(hr:k8 ops fr):∀(l:List Oper) (i:Nat) (d:Dr) (val:Nat->V) (dL:List uh) (r:Dr ⊕ (J V×V×J h2×Nat)),l=ops.toList.drop i->mC P cf ops F h0 kT val dL i d->
  iJ P cf ops F l i d=some r->
  match r with
  | .inl d'=>∃iq p6,mC P cf ops F h0 kT iq p6 (max i ops.size) d'
  | .inr x=>∃j o d' iq p6,ops[j]? =some o/\mC P cf ops F h0 kT iq p6 j d'/\lP P cf ops F j o d'=some (.inr x)
 | [],i,d,val,dL,r,hl,f,e=>by
   simp only[iJ,aq]at e;subst e;have hi:ops.size<=i:=by
    have:=aI List.length hl;simp at this;omega
   rw[Nat.max_eq_left hi];exact⟨val,dL,f⟩
 |o::l,i,d,val,dL,r,hl,f,e=>by
  have hi:i<ops.size:=by
   have:=aI List.length hl;simp at this;omega
  have ho:ops[i]? =some o:=by
   have:=aI (fun x=>x[0]?) hl;simp at this;exact this.symm
  have hl':l=ops.toList.drop (i+1):=by
   have:=aI List.tail hl;simpa using this
  simp only[iJ]at e;split at e
  . rename_i X hs;obtain⟨iq,p6,f'⟩:=Co hr ho f hs;have:=Er hr l (i+1) X iq p6 r hl' f' e;cases r with
    |inl d'=>rw[show max (i+1) ops.size=max i ops.size by omega]at this;exact this
    |inr x=>exact this
  . rename_i x I;cases r with
    |inl d'=>exact absurd e (I d')
    |inr y=>exact⟨i,o,d,val,dL,ho,f,e⟩
end
theorem Good.ext{E:Env}{h h':J h2}{w:World}(g:Good E h w)(e:∀k,h'.get k=h.get k):Good E h' w:=g.sub fun m o q=>by rw[<- e];exact q
theorem iQ.ext{E E':Env}{h h' O:J h2}{w w':World}(u:iQ E h w E' h' w')(e:∀k,O.get k=h'.get k):iQ E h w E' O w':=
 ⟨u.le,u.good.ext e,u.size,u.tape,u.os,u.output,u.keep,fun m b s K q hb=>let⟨m0,s0,a1,a2,a3⟩:=u.tL m b s (by rw[<- e];exact K) q hb;⟨m0,s0,a1,a2,fun c=>a3 (Oj (e m) c)⟩,u.DI⟩
theorem iQ.frame{E E':Env}{h x y z:J h2}{w w':World}(g:Good E h w)(I:Sub x h)(u:iQ E x w E' y w')
  (hz:∀k,z.get k=match y.get k with|some o=>some o|none=>if x.get k=none then h.get k else none):iQ E h w E' z w':=by
 have rest:∀k o,h.get k=some o->x.get k=none->∃b s,E.ι k=some (b,s)/\E'.ι k=some (b,s)/\E'.β b=E.β b/\b<w.heap.size/\w'.heap[b]? =w.heap[b]?/\(∀m X,eN y m->E'.ι m≠some (b,X))/\(o.wr=true->∀m X,y.get m≠none->E'.ι m≠some (b,X))/\nE E w b s o:=by
  intro k o W hxk;obtain⟨b,s,Q,O⟩:=g.rel k o W;have hb:=g.oL k b s Q;have iV:∀m,x.get m≠none->m≠k:=by intro m K e;subst e;exact K hxk
  have Al:∀m X,eN x m->E.ι m≠some (b,X):=by
   intro m X K q;exact g.inj m k b X s (iV m K.live) (ig I K) (by rw[W];simp) q Q
  have ahr:o.wr=true->∀m X,x.get m≠none->E.ι m≠some (b,X):=by
   intro ho m X K q;exact g.inj k m b s X (fun e=>iV m K e.symm) ⟨o,W,ho⟩ (pU I K) Q q
  refine⟨b,s,Q,(u.le.nm k b s Q).1,(u.le.nm k b s Q).2,hb,u.keep b hb Al,?_,?_,O⟩
  . intro m X K q;obtain⟨m0,s0,a1,a2,a3⟩:=u.tL m b X K.live q hb;exact Al m0 s0 (a3 K) a2
  . intro ho m X K q;obtain⟨m0,s0,a1,a2,a3⟩:=u.tL m b X K q hb;exact ahr ho m0 s0 a1 a2
 have zc:∀k o,z.get k=some o->y.get k=some o\/(y.get k=none/\x.get k=none/\h.get k=some o):=by
  intro k o q;rw[hz]at q;split at q
  . rename_i o' hy;cases q;exact .inl hy
  . rename_i hy;split at q
    . rename_i R7;exact .inr ⟨hy,R7,q⟩
    . cases q
 have old:∀k o b s,h.get k=some o->o.wr=true->x.get k=none->E.ι k=some (b,s)->∀c,E'.φ b≠some c:=by
  intro k o b s W ho hxk e c B;rcases u.DI b c B with q|q|⟨m,X,q1,q2⟩
  . exact(g.iz b c q).2 k s ⟨o,W,ho⟩ e
  . have:=g.oL k b s e;omega
  . exact g.inj m k b X s (fun q=>by subst q;exact q1.live hxk) (ig I q1) (by rw[W];simp) q2 e
 refine⟨u.le,⟨?_,?_,u.good.oL,u.good.kx,fun b c B=>⟨(u.good.iz b c B).1,fun m s K e=>?_⟩⟩,u.size,u.tape,u.os,u.output,?_,?_,?_⟩
 case refine_3=>
  obtain⟨o,K,ho⟩:=K;rcases zc m o K with ym|⟨ym,R7,hh⟩
  . exact(u.good.iz b c B).2 m s ⟨o,ym,ho⟩ e
  . obtain⟨b',t,Q,O,_⟩:=rest m o hh R7;rw[O]at e;cases e;exact old m o b s hh ho R7 Q c B
 case refine_6=>
  intro b c B;rcases u.DI b c B with q|q|⟨m,s,q1,q2⟩
  . exact .inl q
  . exact .inr (.inl q)
  . exact .inr (.inr ⟨m,s,ig I q1,q2⟩)
 . intro m o K;rcases zc m o K with hy|⟨hy,R7,K⟩
   . exact u.good.rel m o hy
   . obtain⟨b,s,Q,O,h3,h4,h5,h6,h6',h7⟩:=rest m o K R7;exact⟨b,s,O,ji u.le h3 h5 h7⟩
 . intro m m' b s X iV K sD e e';obtain⟨o,K,ho⟩:=K;obtain⟨o',sD⟩:=bA.1 sD;rcases zc m o K with ym|⟨ym,R7,hh⟩
   . rcases zc m' o' sD with ym'|⟨ym',Wm,hh'⟩
     . exact u.good.inj m m' b s X iV ⟨o,ym,ho⟩ (by rw[ym'];simp) e e'
     . obtain⟨b',t,Q,O,h3,h4,h5,h6,h6',h7⟩:=rest m' o' hh' Wm;rw[O]at e';cases e';exact h6 m s ⟨o,ym,ho⟩ e
   . obtain⟨b',t,Q,O,h3,h4,h5,h6,h6',h7⟩:=rest m o hh R7;rw[O]at e;cases e;rcases zc m' o' sD with ym'|⟨ym',Wm,hh'⟩
     . exact h6' ho m' X (by rw[ym'];simp) e'
     . obtain⟨b2,t2,k1,k2,_⟩:=rest m' o' hh' Wm;rw[k2]at e';cases e';exact g.inj m m' _ _ _ iV ⟨o,hh,ho⟩ (by rw[hh'];simp) Q k1
 . intro b hb hn;exact u.keep b hb fun m s K=>hn m s (ig I K)
 . intro m b s K e hb;obtain⟨o,K⟩:=bA.1 K;have hw:eN z m->o.wr=true:=by rintro⟨o2,q1,q2⟩;rw[K]at q1;cases q1;exact q2
   rcases zc m o K with ym|⟨ym,R7,hh⟩
   . obtain⟨m0,s0,a1,a2,a3⟩:=u.tL m b s (by rw[ym];simp) e hb;exact⟨m0,s0,pU I a1,a2,fun q=>ig I (a3 ⟨o,ym,hw q⟩)⟩
   . obtain⟨b',t,Q,O,_⟩:=rest m o hh R7;rw[O]at e;cases e;exact⟨m,_,by rw[hh];simp,Q,fun q=>⟨o,hh,hw q⟩⟩
theorem Cp{F:Nat}{m:Nat}{x:J h2}{ik k:Nat}:∀(l:af),(∀y∈l,F+y.1<fZ)->
  (gC F l m x ik).get k=match l.find? (fun y=>Nat.beq (F+y.1) k&&ew ik y.1&& !ew m y.1)with|some y=>some y.2|none=>x.get k
 | [],_=>rfl
 |(i,o)::l,ht=>by
  have ih:=Cp (k:=k) (m:=m) (x:=x) (ik:=ik) l fun y hy=>ht y (by simp[hy]);simp only[gC];by_cases hb:(ew ik i&& !ew m i)=true
  . rw[aG hb,J.fJ _ _ _ (ht (i,o) (by simp))];by_cases q:k=F+i
    . subst q;rw[aG rfl,List.find?_cons_of_pos (by simp only[Nat.beq_refl,aN];exact hb)]
    . rw[aB q,ih,List.find?_cons_of_neg];have:Nat.beq (F+i) k=false:=by
       cases hh:Nat.beq (F+i) k with
       |false=>rfl
       |true=>exact absurd (aA hh).symm q
      simp[this]
  . rw[aB hb,ih,List.find?_cons_of_neg];intro q;simp only[Bool.and_assoc]at q;rw[ay]at q;exact hb q.2
section
variable{F m:Nat}{x:J h2}
theorem jm{ik i:Nat}{b:h2}{l:af}(ht:∀y∈l,F+y.1<fZ)(one:∀(j:Nat) (b b':h2),(j,b)∈l->(j,b')∈l->b=b')(hi:(i,b)∈l)
  (ha:ew ik i=true) (K:ew m i=false):(gC F l m x ik).get (F+i)=some b:=by
 rw[Cp l ht];cases hf:l.find? (fun y=>Nat.beq (F+y.1) (F+i)&&ew ik y.1&& !ew m y.1)with
 |none=>
  have:=List.find?_eq_none.1 hf (i,b) hi;simp[Nat.beq_refl,ha,K]at this
 |some y=>
  have Q:=List.mem_of_find?_eq_some hf;have O:=List.find?_some hf;simp only[ay]at O;have h3:=aA O.1.1;have h4:y.1=i:=by omega
  obtain⟨y1,y2⟩:=y;simp only at h4;subst h4;simp only[one y1 y2 b Q hi]
theorem nP{ik k:Nat}{l:af}(ht:∀y∈l,F+y.1<fZ)(h:∀i b,(i,b)∈l->ew ik i=true->ew m i=false->k≠F+i):(gC F l m x ik).get k=x.get k:=by
 rw[Cp l ht];cases hf:l.find? (fun y=>Nat.beq (F+y.1) k&&ew ik y.1&& !ew m y.1)with
 |none=>rfl
 |some y=>
  have Q:=List.mem_of_find?_eq_some hf;have O:=List.find?_some hf;simp only[ay,bV]at O;exact absurd (aA O.1.1).symm (h y.1 y.2 Q O.1.2 O.2)
theorem iZ{ik:Nat}{l:af}(ht:∀y∈l,F+y.1<fZ)(one:∀(j:Nat) (b b':h2),(j,b)∈l->(j,b')∈l->b=b')(k:Nat):
  (∃i b,(i,b)∈l/\ew ik i=true/\ew m i=false/\k=F+i/\(gC F l m x ik).get k=some b) \/
  ((∀i b,(i,b)∈l->ew ik i=true->ew m i=false->k≠F+i)/\(gC F l m x ik).get k=x.get k):=by
 by_cases h:∃i b,(i,b)∈l/\ew ik i=true/\ew m i=false/\k=F+i
 . obtain⟨i,b,Q,O,h3,rfl⟩:=h;exact .inl ⟨i,b,Q,O,h3,rfl,jm ht one Q O h3⟩
 . have h':∀i b,(i,b)∈l->ew ik i=true->ew m i=false->k≠F+i:=fun i b Q O h3 q=>h ⟨i,b,Q,O,h3,q⟩;exact .inr ⟨h',nP ht h'⟩
end
def HB(E:Env):s'->Exit->Prop
 | .normal,.normal=>True
 | .exit i,.exit j=>i=j
 | .ret,.ret=>True
 | .panic v,.panic chain=>∃v',dV E v v'/\chain=[{ v:=v',recovered:=false }]
 |_,_=>False
section
variable{P:Program}{cf:fO}{ops:Array Oper}{F fr gM:Nat}{h0:J h2}{kT:J V}{val:Nat->V}{dL:List uh}{d:Dr}{E0:Env}{w0:World}{x9:List Deferred}
structure Inv(ops:Array Oper)(F fr gM:Nat)(h0:J h2)(kT:J V)(val:Nat->V)(dL:List uh)(dA:af)(E0:Env)(w0:World)(x9:List Deferred)
  (fm:Nat->Bool) (ms Tr:Nat) (E:Env) (a:Act) (w:World):Prop where
 bits:∀i,ew ms i=fm i
 OH:∀i,fm i=true->i<gM
 closed:∀(j:Nat) (o:Oper),fm j=true->ops[j]? =some o->∀e∈o.after,Region.binds .any e=true->fm e.on=true
 DU:∀(c:Nat) (e:uh),dL[c]? =some e->(fm e.1=true↔c<Tr)
 Jle:Tr<=dL.length
 f1:∀(j:Nat) (o:Oper) (t:Nat),fm j=true->ops[j]? =some o->o.dst=some t->∃v',a.tmps[t]? =some v'/\dV E (val j) v'
 f2:∀(t:Nat) (v:V),kT.get t=some v->(∀(j:Nat) (o:Oper),fm j=true->ops[j]? =some o->o.dst≠some t)->∃v',a.tmps[t]? =some v'/\dV E v v'
 tO:iQ E0 h0 w0 E (gC F dA (eI h0 (F+ops.size) dL Tr).1 (eI h0 (F+ops.size) dL Tr).2.1 ms) w
 old:∀k,k<F->E.ι k=E0.ι k
 qu:∀k p,E.ι k=some p->k<F\/(∃i b,(i,b)∈dA/\fm i=true/\k=F+i)\/(F+ops.size<=k/\k<(eI h0 (F+ops.size) dL Tr).2.2)
 free:∀i,i<ops.size->ew (eI h0 (F+ops.size) dL Tr).1 i=false->(eI h0 (F+ops.size) dL Tr).2.1.get (F+i)=none
 Cq:F+ops.size<=(eI h0 (F+ops.size) dL Tr).2.2
 size:a.tmps.size=fr
 ij:a.defers=x9
theorem Inv.ik(hr:k8 ops fr){dA:af}{fm:Nat->Bool}{ms Tr:Nat}{E:Env}{a:Act}{w:World}(hx:Inv ops F fr gM h0 kT val dL dA E0 w0 x9 fm ms Tr E a w){j k:Nat}(hj:fm j=true)(h:ew (iH ops j) k=true):fm k=true:=
 Cj hr.v7 (fm:=fun i=>fm i=true) (fun j o hs ho e he hb=>hx.closed j o hs ho e he hb) j k hj h
theorem rP(hr:k8 ops fr){fm:Nat->Bool}(hS:∀(j:Nat) (o:Oper),fm j=true->ops[j]? =some o->∀e∈o.after,Region.binds .any e=true->fm e.on=true){j k:Nat}{o:Oper}(ho:ops[j]? =some o)
  (hd:∀e∈o.after,Region.binds .any e=true->fm e.on=true) (h:ew (iH ops j) k=true):fm k=true:=by
 obtain⟨e,Q,O,h3⟩:=(x7 hr.v7 ho).1 h;rcases h3 with rfl|h3
 . exact hd e Q O
 . exact Cj hr.v7 (fm:=fun i=>fm i=true) hS e.on k (hd e Q O) h3
theorem Inv.aba(hr:k8 ops fr)(f:mC P cf ops F h0 kT val dL gM d){fm:Nat->Bool}{ms Tr:Nat}{E:Env}{a:Act}{w:World}
  (hx:Inv ops F fr gM h0 kT val dL d.dA E0 w0 x9 fm ms Tr E a w) {i:Nat} (h:ew (eI h0 (F+ops.size) dL Tr).1 i=true):fm i=true:=by
 cases Tr with
 |zero=>simp[eI,je]at h
 |succ c=>
  have B:c<dL.length:=by have:=hx.Jle;omega
  have he:dL[c]? =some dL[c]:=au B;simp only[eI,he]at h;obtain⟨_,o,_,_,h3⟩:=f.tP c _ he;rw[h3]at h;exact hx.ik hr ((hx.DU c _ he).2 H) h
theorem Inv.use(hr:k8 ops fr){dA:af}{fm:Nat->Bool}{ms Tr:Nat}{E:Env}{a:Act}{w:World}(hx:Inv ops F fr gM h0 kT val dL dA E0 w0 x9 fm ms Tr E a w)
  {j:Nat} {o:Oper} (ho:ops[j]? =some o) (hj:fm j=false) (hd:∀e∈o.after,Region.binds .any e=true->fm e.on=true) {N:J V} (hf:zj ops kT val j N) {t:Nat} (ht:t∈uA ops o) {v:V} (hv:N.get t=some v):
  ∃v',a.tmps[t]? =some v'/\dV E v v':=by
 by_cases h:∃i q,i<j/\ops[i]? =some q/\q.dst=some t
 . obtain⟨i,q,Q,O,h3⟩:=h;have hu:=hr.use i j q o t O ho H h3 ht;rw[aG Q]at hu;have hi:=rP hr hx.closed ho hd hu;have:=hf.new i q t Q O h3;rw[this]at hv;cases hv;exact hx.f1 i q t hi O h3
 . have og:=hf.old t fun i q hi hq hd=>h ⟨i,q,hi,hq,hd⟩;rw[og]at hv;refine hx.f2 t v hv fun i q hi hq Lj=>?_;have iV:i≠j:=by intro e;subst e;rw[hj]at hi;cases hi
   have hu:=hr.use i j q o t hq ho iV Lj ht;split at hu
   . rename_i eO;exact h ⟨i,q,eO,hq,Lj⟩
   . have:=hx.ik hr hi hu;rw[hj]at this;cases this
theorem Inv.uz(hr:k8 ops fr){dA:af}{fm:Nat->Bool}{ms Tr:Nat}{E:Env}{a:Act}{w:World}(hx:Inv ops F fr gM h0 kT val dL dA E0 w0 x9 fm ms Tr E a w)
  {j:Nat} {o:Oper} (ho:ops[j]? =some o) (hj:fm j=false) (hd:∀e∈o.after,Region.binds .any e=true->fm e.on=true) {N:J V} (hf:zj ops kT val j N):∀x∈o.op.operands,mW E N a.eval x:=by
 intro x I v hv;cases x with
 |tmp t=>
  have ht:t∈uA ops o:=by
   unfold uA;refine List.mem_append_left _ (List.mem_filterMap.2 ⟨.tmp t,by simpa using I,rfl⟩)
  obtain⟨v',Q,O⟩:=hx.use hr ho hj hd hf ht hv;simp only[Act.eval,bJ,Q];exact O
 |const c=>exact y8 hv
 |func f=>simp only[iP,aq]at hv;subst hv;exact⟨_,[],[],rfl,rfl,rfl,rfl⟩
 |global g=>exact GZ hx.tO.good.kx hv
theorem Inv.wanted(hr:k8 ops fr){dA:af}{fm:Nat->Bool}{ms Tr:Nat}{E:Env}{a:Act}{w:World}(hx:Inv ops F fr gM h0 kT val dL dA E0 w0 x9 fm ms Tr E a w)
  {j:Nat} {o:Oper} (ho:ops[j]? =some o) (hj:fm j=false) (hd:∀e∈o.after,Region.binds .any e=true->fm e.on=true) {N:J V} (hf:zj ops kT val j N) {b:Bool} (e:fT ops o N=some b):
  Region.wanted o (yielded ops a.tmps)=b:=by
 refine wK (E:=E) (fun g Fa q t hg hq hdq v hv=>?_) e;have ht:t∈uA ops o:=by
  unfold uA;refine List.mem_append_right _ ?_;simp only[hg,hq,hdq];simp
 exact hx.use hr ho hj hd hf ht hv
theorem Inv.frame(hr:k8 ops fr){dA:af}{fm:Nat->Bool}{ms Tr:Nat}{E E':Env}{a:Act}{w:World}(hx:Inv ops F fr gM h0 kT val dL dA E0 w0 x9 fm ms Tr E a w)
  {j:Nat} {o:Oper} (ho:ops[j]? =some o) (kK:E.le E') {v':Value} (hv:dV E' (val j) v'):
  (∀(k:Nat) (q:Oper) (t:Nat),(fm k||decide (k=j))=true->ops[k]? =some q->q.dst=some t->∃v2,(a.put o.dst v').tmps[t]? =some v2/\dV E' (val k) v2)/\
  (∀(t:Nat) (v:V),kT.get t=some v->(∀(k:Nat) (q:Oper),(fm k||decide (k=j))=true->ops[k]? =some q->q.dst≠some t)->∃v2,(a.put o.dst v').tmps[t]? =some v2/\dV E' v v2):=by
 have Fw:mX a.tmps.size o.dst:=by rw[hx.size];exact hr.dst j o ho
 refine⟨fun k q t W hq ht=>?_,fun t v OD ht=>?_⟩
 . by_cases c:k=j
   . subst c;rw[ho]at hq;cases hq;have:=Fw t ht;exact⟨v',by simp[Act.put,ht,this],hv⟩
   . have oV:fm k=true:=by simpa[c]using W
     obtain⟨v2,Q,O⟩:=hx.f1 k q t oV hq ht;refine⟨v2,?_,jh kK _ _ O⟩;cases hd:o.dst with
     |none=>exact Q
     |some u=>
      have iV:u≠t:=by intro e;subst e;exact c (hr.one k j q o u hq ho ht hd)
      simp[Act.put,iV,Q]
 . obtain⟨v2,Q,O⟩:=hx.f2 t v OD fun k q W hq=>ht k q (by simp[W]) hq;refine⟨v2,?_,jh kK _ _ O⟩;cases hd:o.dst with
   |none=>exact Q
   |some u=>
    have iV:u≠t:=by intro e;subst e;exact ht j o (by simp) ho hd
    simp[Act.put,iV,Q]
end
end Go.Eng
