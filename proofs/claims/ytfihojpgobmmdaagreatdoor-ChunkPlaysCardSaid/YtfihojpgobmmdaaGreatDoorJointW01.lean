/- The engine, part I: conversions, make, append. No conditions: lemmas alone. -/
import Derived.Test.YtfihojpgobmmdaaGreatDoorJointW00
import Derived.Lib.UnsafeStr
import Derived.RangeFuncSeq
import Derived.TacticsIn
set_option linter.unusedVariables false
set_option linter.unusedSimpArgs false
set_option linter.unusedSectionVars false
namespace Go.Eng
open Go
section
variable{P:Program}{E:Env}{h:Tr O}{n:Nat}{w:World}
theorem BY(s:aa):dG E (BK s) (s.map fun b=>Value.int .u8 b.toNat):=by
 refine jt (by simp[BK]) fun i v q=>?_;simp only[BK,br,Option.map_eq_some_iff]at q ⊢;obtain⟨b,q1,rfl⟩:=q;exact⟨_,⟨b,q1,rfl⟩,rfl⟩
theorem BZ(s:aa):(dP s).map (V.int .u8)=BK s:=by simp[dP,BK]
theorem B0{ks:List Int}{o cN:Nat}{vs:List Value}(r:dG E (((ks.map (V.int .u8)).drop o).take cN) vs):vs=((ks.drop o).take cN).map (Value.int .u8):=by
 rw[<- List.map_drop,<- cK]at r;revert r;generalize (ks.drop o).take cN=l;intro r
 induction l generalizing vs with
 |nil=>exact r
 |cons x l ih=>
  obtain⟨y,ys,r0,rs,rfl⟩:=r;simp only[dz]at r0;subst r0;rw[ih rs];rfl
theorem JJ{m b s:Nat}{t:aa}(g:Good E h w)(hi:E.ι m=some (b,s))(e:uj (h.get m)=some t):∃c el fz xs,w.heap[b]? =some (.cells c el fz)/\s=0/\eM xs=t/\∀(j:Nat) (x:Int),xs[j]? =some x->c[j]? =some (.int .u8 x):=by
 unfold uj at e;split at e
 . rename_i el As t' hm;cases e;obtain⟨b',s',zw,c,fz,xs,h1,h2,_,_,h3,h4⟩:=g.rel m _ hm;rw[hi]at zw;cases zw;exact⟨c,el,fz,xs,h1,h2,h3,h4⟩
 . cases e
theorem M5{m b s:Nat}{ks:List Int}(g:Good E h w)(hi:E.ι m=some (b,s))(e:Au (h.get m)=some ks):∃c el fz,w.heap[b]? =some (.cells c el fz)/\lY E s (ks.map (.int .u8)) c:=by
 unfold Au at e;split at e
 . rename_i Wy hm;cases e;obtain⟨b',s',zw,c,el,fz,h1,_,_,h2⟩:=g.rel m _ hm;rw[hi]at zw;cases zw;exact⟨c,el,fz,h1,h2⟩
 . rename_i Wy hm;cases e;obtain⟨b',s',zw,c,el,fz,h1,_,h2⟩:=g.rel m _ hm;rw[hi]at zw;cases zw;exact⟨c,el,fz,h1,mG.2 h2⟩
 . cases e
theorem B2:∀(bs:ag) (s:aa) (bs':List Value),qK bs=some s->dG E bs bs'->
  ∃ns:List Int,bs'=ns.map (Value.int .u8)/\s=ns.map fun n=>UInt8.ofNat n.toNat
 | [],s,bs',e,r=>by
   simp only[qK,an]at e;subst e;simp only[dG]at r;subst r;exact⟨[],rfl,rfl⟩
 |x::xs,s,bs',e,r=>by
  obtain⟨y,ys,rx,rs,rfl⟩:=r;cases x with
  |int k m=>
   cases k<;>simp only[qK]at e<;>first|(cases e;done)|skip
   cases hx:qK xs with
   |none=>simp[hx]at e
   |some t=>
    simp only[hx,an]at e;subst e;simp only[dz]at rx;subst rx;obtain⟨ns,h1,h2⟩:=B2 xs t ys hx rs;exact⟨m::ns,by simp[h1],by simp[h2]⟩
  |_=>simp[qK]at e
theorem sY:∀(ns:List Int) (r:ByteArray),ns.foldl (fun r n=>r.push (UInt8.ofNat n.toNat)) r=⟨r.data++(ns.map fun n=>UInt8.ofNat n.toNat).toArray⟩
 | [],r=>by simp
 |n::ns,r=>by
  simp only[List.foldl_cons];rw[sY ns];simp[ByteArray.push]
theorem JK{Lx dst:TypeId}{x:V}{x':Value}{r:R}(g:Good E h w)(hn:E.ι n=none)(rx:dz E x x')(e:qa P Lx dst x h n=some r):
  jX P E h n w (do pure (.value (<- convert Lx dst x'))) r:=by
 unfold qa at e;split at e
 . rename_i d k k' m h1 h2;obtain rfl:=ek e;simp only[dz]at rx;subst rx;refine dM g (v':=.int k (k.wrap m)) ?_ rfl;simp[convert,dj h1,dj h2,Conv.intToInt]
 . rename_i d s h1 h2;obtain rfl:=ek e;simp only[dz]at rx;subst rx;refine dM g (v':=.string ⟨s.toArray⟩) ?_ rfl;simp[convert,dj h1,dj h2]
 . rename_i el s h1 h2;simp only[dz]at rx;subst rx;split at e
   . rename_i hu;cases ho:newObj h n (.own .u8 (dP s))with
     |none=>simp[ho]at e
     |some p=>
      obtain⟨h',n'⟩:=p;simp only[ho,an]at e;subst e;have lP:(⟨s.toArray⟩:ByteArray).size=s.length:=by show s.toArray.size=_;simp
      have fH:=run_bytes_of_string w Lx dst el ⟨s.toArray⟩ h1 h2 hu;rw[lP]at fH;have nw:s.length<=grownCap w s.length 0 el:=by simp only[grownCap,Question.cut];omega
      have hc:(bytesRow ⟨s.toArray⟩ (grownCap w s.length 0 el)).size=grownCap w s.length 0 el:=by simp[bytesRow,lP];omega
      refine Hl (r:=.is .u8 (dP s)) (w1:=w.drew) (c:=bytesRow ⟨s.toArray⟩ (grownCap w s.length 0 el)) (el:=el) (fz:=((bytesRow ⟨s.toArray⟩ (grownCap w s.length 0 el)).size,(bytesRow ⟨s.toArray⟩ (grownCap w s.length 0 el)).size+1)) (v':=.slice (some ⟨w.heap.size,0,none⟩) s.length (grownCap w s.length 0 el)) g hn trivial ho rfl rfl rfl rfl ?_ ?_ ?_ ?_
      . intro i hi q;simp at q;omega
      . simp only[Sem.run_bind,fH,Result.andThen_ok,Sem.run_pure]
      . intro i v q;obtain⟨v',q1,q2⟩:=gz (BY (E:=E) s) i v (by rw[<- BZ];exact q);refine⟨v',?_,q2⟩;simp only[bytesRow,bH];rw[bQ (by simpa using (aF.1 q1).1)];simpa using q1
      . refine⟨w.heap.size,0,0,grownCap w s.length 0 el,Env.eV,fun _=>rfl,aA _,nw,?_,rfl⟩;simp[Env.put,hc]
   . cases e
 . rename_i el f cs h1 h2;have hx:∃a cO,x'= .slice a 0 cO:=by obtain⟨a,cO,_,hx,_⟩:=rx.1;exact⟨a,cO,hx⟩
   obtain⟨a,cO,rfl⟩:=hx;split at e
   . rename_i hu;obtain rfl:=ek e;refine dM g (v':=.string .empty) ?_ rfl;cases a<;>simp[convert,dj h1,dj h2,dj hu,Conv.bytesToString,loadCells,loadCellsFrom]
   . cases e
 . rename_i el _ _ _ h1 h2;obtain⟨_,_,rfl⟩:=rx;split at e
   . rename_i hu;obtain rfl:=ek e;refine dM g (v':=.string .empty) ?_ rfl;simp[convert,dj h1,dj h2,dj hu,Conv.bytesToString]
   . cases e
 . rename_i el m o cN cO jo h1 h2;split at e
   . rename_i hu;split at e
     . rename_i S3;subst S3;obtain⟨b,sh,o',fZ,hi,c1,c2,c3,c4,rfl⟩:=rx;split at e
       . rename_i s0 hm;split at e
         . rename_i ku;obtain rfl:=ek e;obtain⟨c,WA,fz,xs,wq,Yg,B3,Ek⟩:=JJ g hi hm;subst Yg;refine dM g (v':=.string ⟨((s0.drop o).take cN).toArray⟩) ?_ rfl;rcases Nat.eq_zero_or_pos cN with vJ|Yh
           . subst vJ;simp[convert,dj h1,dj h2,dj hu,Conv.bytesToString,loadCells,loadCellsFrom];rfl
           . have ku:o+cN<=s0.length:=ku.resolve_left be;have S4:xs.length=s0.length:=by rw[<- B3];simp[eM]
             have DS:o'=0+o:=c1 be;subst DS;have acp:lY E 0 (xs.map (.int .u8)) c:=mG.2 (by simpa using Ek);have hb:=nP acp (k:=o+cN) be (by simp;omega);have WB:=run_loadCells (P:=P) (o:=0+o) (n:=cN) wq be;rw[B0 (nQ acp (by simp;omega) be)]at WB;rw[Sem.run_bind,run_convert_bytes_string w Lx dst el _ cN fZ h1 hu h2,run_bytesToString w _ cN fZ _ WB,sY];simp[<- B3,eM,cK,List.map_drop]
         . cases e
       . split at e
         . rename_i ks hm;split at e
           . rename_i ku;obtain rfl:=ek e;obtain⟨c,WA,fz,wq,Ek⟩:=M5 g hi hm;refine dM g (v':=.string ⟨(eM ((ks.drop o).take cN)).toArray⟩) ?_ rfl;rcases Nat.eq_zero_or_pos cN with vJ|Yh
             . subst vJ;simp[convert,dj h1,dj h2,dj hu,Conv.bytesToString,loadCells,loadCellsFrom,eM];rfl
             . have ku:o+cN<=ks.length:=ku.resolve_left be;have DS:o'=sh+o:=c1 be;subst DS;have hb:=nP Ek (k:=o+cN) be (by simpa using ku);have WB:=run_loadCells (P:=P) (o:=sh+o) (n:=cN) wq be;rw[B0 (nQ Ek (by simpa using ku) be)]at WB;rw[Sem.run_bind,run_convert_bytes_string w Lx dst el _ cN fZ h1 hu h2,run_bytesToString w _ cN fZ _ WB,sY];simp[eM]
           . cases e
         . split at e
           . obtain rfl:=ek e;refine dM g (v':=.string .empty) ?_ rfl;simp[convert,dj h1,dj h2,dj hu,Conv.bytesToString,loadCells,loadCellsFrom]
           . rename_i vJ;split at e
             . rename_i cs hm;cases hc:cut cs o cN with
               |none=>simp[hc]at e
               |some bs=>
                simp only[hc]at e;cases ht:qK bs with
                |none=>simp[ht]at e
                |some s=>
                 simp only[ht,an]at e;subst e;obtain⟨ku,rfl⟩:=zF hc;have Yh:0<cN:=by
                  cases cN with
                  |zero=>exact absurd rfl vJ
                  |succ _=>omega
                 have DS:o'=sh+o:=c1 be;subst DS;obtain⟨b',sh',zw,c,WA,fz,wq,_,_,Ek⟩:=g.rel m _ hm;rw[hi]at zw;cases zw;have hb:=nP Ek (k:=o+cN) be ku;have WB:=run_loadCells (P:=P) (o:=sh+o) (n:=cN) wq be;obtain⟨ns,n1,n2⟩:=B2 _ s _ ht (nQ Ek ku be);rw[n1]at WB;refine dM g (v':=.string ⟨s.toArray⟩) ?_ rfl;rw[Sem.run_bind,run_convert_bytes_string w Lx dst el _ cN fZ h1 hu h2,run_bytesToString w _ cN fZ ns WB,sY,<- n2];simp
             . cases e
     . cases e
   . cases e
 . cases e
theorem Em{t:TypeId}{i:TypeInfo}{z:V}(hi:P.info? t=some i)(hz:zeroOf P t=some z):∃z',i.zero=some z'/\(zeroValue t).run P w= .ok z' w/\dz E z z':=by
 obtain⟨z',h1,h2,i',h3,h4⟩:=lZ (P:=P) (w:=w) E hz;rw[hi]at h3;cases h3;exact⟨z',h4,h1,h2⟩
theorem Hr(k:IntKind)(ks:List Int):∀n,(tS ks n).map (V.int k)=gL (ks.map (V.int k)) n
 |0=>rfl
 |n+1=>by rw[tS,gL,aX,Hr k ks n]
theorem Pm{z z':ag}(h:wk z z'):∀n,wk (gL z n) (gL z' n)
 |0=>iK _
 |n+1=>zC h (Pm h n)
theorem Hs(ds:ai):∀n,D.lN (A4 ds n)=gL (D.lN ds) n
 |0=>rfl
 |n+1=>by rw[A4,gL,<- Hs ds n,D.gr,D.gr,D.gr,aX]
theorem LD{ds:ai}(h:∀x∈ds,x.scalar=true):∀n,∀x∈A4 ds n,x.scalar=true
 |0,x,hx=>by simp[A4]at hx
 |n+1,x,hx=>(aU.1 hx).elim (h x) (LD h n x)
theorem B4(z:ag)(n:Nat):wk (gL z n) (vB z n).iH/\(vB z n).sc:=by
 have key:∀z:ag,wk (gL z n) (match gX z with|some ds=>Row.ds (A4 ds n)|none=>Row.vs (gL z n)).iH/\(match gX z with|some ds=>Row.ds (A4 ds n)|none=>Row.vs (gL z n)).sc:=by
  intro z;split
  . rename_i ds h;refine⟨?_,LD (nO h) n⟩;simp only[Row.iH,Hs];exact Pm (ya h) n
  . exact⟨iK _,trivial⟩
 unfold vB;split
 . rename_i k x r;split
   . rename_i ks h;refine⟨?_,trivial⟩;rw[pT h];simp only[Row.iH,Hr];exact iK _
   . exact key _
 . exact key _
theorem FN{t:TypeId}{l c:V}{l' c':Value}{r:R}(g:Good E h w)(hn:E.ι n=none)(rl:dz E l l')(rc:dz E c c')(e:nJ P t l c h n=some r):
  jX P E h n w (do pure (.value (<- Instr.makeSlice t l' c'))) r:=by
 unfold nJ at e;split at e
 . rename_i el k l k' c he;simp only[dz]at rl rc;subst rl;subst rc;split at e
   . rename_i i z hi hz;simp only at e;split at e
     . rename_i hq;obtain⟨q1,q2,q3,q4,q5⟩:=hq;cases ho:newObj h n (vB z.cells (IntKind.i64.wrap c).toNat).Eh with
       |none=>simp[ho]at e
       |some p=>
        obtain⟨h',n'⟩:=p;simp only[ho,an]at e;subst e;obtain⟨z',OK,M6,hz3⟩:=Em (P:=P) (E:=E) (w:=w) hi hz;have hzc:=gZ hz3;have Pd:=BV hzc be (IntKind.i64.wrap c).toNat;rw[q2]at Pd;generalize hC:(IntKind.i64.wrap c)=C at *;generalize hL:(IntKind.i64.wrap l)=L at *;have hu:=Hp he;have lP:(sizeOf el).run P w= .ok i.size w:=by simp[sizeOf,typeInfo,hi]
        refine sU (w1:=w) (c:=(Array.range (C.toNat*i.size)).map (z'.cells[·%z'.cells.size]!)) (el:=el) (v':=.slice (some ⟨w.heap.size,0,none⟩) L.toNat C.toNat) g hn (B4 _ _).2 ho rfl rfl rfl rfl ?_ (by refine yb (B4 _ _).1 ?_;exact ot Pd) ?_
        . have Pn:¬((i.bytes:Int)*C>2^48):=by omega
          simp only[Instr.makeSlice,Sem.run_bind,dj hu,Result.andThen_ok,asInt,asIntOf,Sem.run_pure,typeInfo,run_program,hi,hC,hL];rw[aI (by simp;omega)];simp only[Sem.run_bind,run_askRoom,Result.andThen_ok,lP,Sem.run_ite,Sem.run_pure,M6];by_cases h0:C.toNat*i.size=0
          . rw[aG h0];have e0:∀f:Nat->Value,Array.map f (Array.range 0)=#[]:=fun f=>by apply Array.ext' ;simp
            simp[h0,newRow,e0]
          . rw[aI h0];simp[newRow]
        . refine⟨w.heap.size,0,0,C.toNat,Env.eV,fun _=>rfl,be,aA _,?_,rfl⟩;simp[Env.put]
     . cases e
   . cases e
 . cases e
theorem Ht{size k:Nat}{x:V}{new:Row}{x':Value}(g:Good E h w)(r:dz E x x')(e:jq h size x=some (k,new)):
  (∀w1:World,(Builtin.lenOf x').run P w1= .ok k w1)/\new.iH.length=k*size/\new.sc/\
   ∃ki:Array Value,(∀w1:World,w1.heap=w.heap->(Builtin.firstCells size k x').run P w1= .ok ki w1)/\dG E new.iH ki.toList:=by
 unfold jq at e;split at e
 . rename_i cN _ _;split at e
   . rename_i hl;obtain⟨rfl,rfl⟩:=eY e;obtain⟨_,_,rfl⟩:=r;exact⟨fun _=>rfl,by simp[Row.iH],trivial,#[],fun _ _=>rfl,by simp[dG,Row.iH]⟩
   . cases e
 . rename_i m o cN cO jo;split at e
   . rename_i S3;subst S3;obtain⟨b,sh,o',fZ,hi,c1,c2,c3,c4,rfl⟩:=r;split at e
     . obtain⟨rfl,rfl⟩:=eY e;refine⟨fun _=>rfl,by simp[Row.iH],trivial,#[],fun _ _=>?_,by simp[dG,Row.iH]⟩;simp[Builtin.firstCells,loadCells,loadCellsFrom]
     . rename_i vJ;split at e
       . rename_i ob hm;split at e
         . rename_i rw0 w9;cases sW:rw0.cut o (cN*jo)with
           |none=>simp[sW]at e
           |some x=>
            simp only[sW,an,aB]at e;obtain⟨rfl,rfl⟩:=e;obtain⟨ku,hx⟩:=zF (Row.FE sW);have Yh:0<cN:=by
             cases cN with
             |zero=>exact absurd rfl vJ
             |succ _=>omega
            have DS:o'=sh+o:=c1 be;subst DS;obtain⟨b',sh',zw,q0⟩:=g.rel m _ hm;obtain⟨⟨c,WA,fz,wq,lP,Ek⟩,JC⟩:=M1 w9 q0;rw[hi]at zw;cases zw;have zH:sh+o+cN*jo<=c.size:=by
             have:cN*jo<=fZ*jo:=cn _ be;omega
            refine⟨fun _=>rfl,by rw[hx];simp;omega,Row.O5 sW JC,((c.toList.drop (sh+o)).take (cN*jo)).toArray,fun w1 Ej=>?_,by rw[hx];simpa using nQ Ek ku zH⟩;simp only[Builtin.firstCells];exact run_loadCells (by rw[Ej];exact wq) zH
         . cases e
       . cases e
   . cases e
 . rename_i s;split at e
   . rename_i fP;obtain⟨rfl,rfl⟩:=eY e;simp only[dz]at r;subst r;have lP:(⟨s.toArray⟩:ByteArray).size=s.length:=by show s.toArray.size=_;simp
     refine⟨fun _=>?_,by simp[dP,fP,Row.iH],trivial,(s.map fun b=>Value.int .u8 b.toNat).toArray,fun w1 _=>?_,by simp only[Row.iH,BZ];exact BY s⟩
     . simp[Builtin.lenOf,lP]
     . simp only[Builtin.firstCells,Sem.run_pure];congr 1;apply Array.ext';simp
   . cases e
 . rename_i f cN cs;split at e
   . rename_i hl;obtain⟨rfl,rfl⟩:=eY e;obtain⟨⟨a,cO,vs,rfl,nw,hd,h0,mz⟩,_⟩:=r;have hvl:=pE hd;refine⟨fun _=>rfl,by simp only[Row.iH,D.gr,aY];exact hl,ja hd,vs.toArray,fun w1 Ej=>?_,by simpa[Row.iH]using vE _ _ hd⟩;rcases Nat.eq_zero_or_pos cN with hz|hp
     . have:=h0 hz;subst this;have hv:vs=[]:=by simpa using hvl
       subst hv;subst hz;cases a<;>simp[Builtin.firstCells,loadCells,loadCellsFrom]
     . obtain⟨b,o,c,rfl,Bk,hc⟩:=mz hp;obtain⟨⟨el,fz,wq⟩,_⟩:=g.gI b c Bk;have acq:(c.toList.drop o).take (cN*size)=vs:=by
        apply List.ext_getElem?;intro j;rw[bM,bG];by_cases hj:j<cN*size
        . rw[aG hj];have Yi:j<vs.length:=by omega
          have:=hc j _ (ay Yi);rw[ay Yi,<- this];simp
        . rw[aI hj,bP be]
       simp only[Builtin.firstCells];rcases Nat.eq_zero_or_pos (cN*size)with q|q
       . have hn:vs=[]:=by simpa[hl,q]using hvl
         subst hn;rw[q];rfl
       . have zH:o+cN*size<=c.size:=by
          have:((c.toList.drop o).take (cN*size)).length=cN*size:=by rw[acq];omega
          simp at this;omega
         rw[run_loadCells (by rw[Ej];exact wq) zH,acq]
   . cases e
 . cases e
end
section
variable{P:Program}{E:Env}{h:Tr O}{n:Nat}{w:World}
theorem mZ(z:Array Value)(k:Nat):(Builtin.zeroCells z k).size=k*z.size:=by simp[Builtin.zeroCells]
theorem B5{MZ size bytes:Nat}(q:eP MZ size bytes=true):MZ*bytes<=281474976710/\MZ*size<=281474976710:=by
 simpa[eP]using q
theorem tN{b o:Nat}{el:TypeId}{fz:Nat×Nat}:∀(vs:List Value) (i:Nat) (w:World) (c:Array Value),w.heap[b]? =some (.cells c el fz)->
  (∀j,o+i<=j->j<o+i+vs.length->¬(fz.1<=j/\j<fz.2))->(∀v∈vs,v.oneCell'=true)->o+i+vs.length<=c.size->
  ∃w',(storeCells ⟨b,o,none⟩ vs i).run P w= .ok () w'/\w'.heap[b]? =some (.cells (putCells c (o+i) vs) el fz)/\w'.heap.size=w.heap.size/\w'.tape=w.tape/\w'.os=w.os/\w'.output=w.output/\
   ∀x,x≠b->w'.heap[x]? =w.heap[x]?
 | [],i,w,c,h,_,_,hn=>by
   refine⟨w,rfl,?_,rfl,rfl,rfl,rfl,fun _ _=>rfl⟩;rw[h];have:putCells c (o+i) []=c:=by simp[putCells]
   rw[this]
 |v::vs,i,w,c,h,hf,hv,hn=>by
  simp only[aS]at hn hf;have fE:o+i<c.size:=by omega
  have hnf:w.frozen? ⟨b,o+i,none⟩=false:=by
   have:=hf (o+i) (aA _) be;simp only[World.frozen?,h];simpa using this
  let w1:=w.setCell ⟨b,o+i,none⟩ v
  have Ej:w1.heap[b]? =some (.cells (c.setIfInBounds (o+i) v) el fz):=by
   simp[w1,World.setCell,cm,h]
  obtain⟨w',e1,e2,e3,e4,e5,e6,e7⟩:=tN (o:=o) vs (i+1) w1 (c.setIfInBounds (o+i) v) Ej (fun j h1 h2=>hf j be be) (fun v hv'=>hv v (by simp[hv'])) (by simp only[Array.size_setIfInBounds];omega);refine⟨w',?_,?_,by rw[e3];simp[w1],by rw[e4];rfl,by rw[e5];rfl,by rw[e6];rfl,?_⟩
  . simp only[storeCells,Sem.run_bind];rw[run_store P w _ v .plain (hv v (by simp)),Addr.iU,mW h,bk fE];simp only[hnf,aO,cF,Result.andThen_ok];exact e1
  . rw[e2];have:o+(i+1)=o+i+1:=by omega
    rw[this,q9 be]
  . intro x hx;rw[e7 x hx];simp[w1,World.setCell,cm,Ne.symm hx]
theorem yo:∀{l:ag} {t:aa},uv l=some t->∃xs:List Int,l=xs.map (.int .u8)/\eM xs=t
 | [],t,h=>by simp only[uv,an]at h;subst h;exact⟨[],rfl,rfl⟩
 |v::r,t,h=>by
  unfold uv at h;split at h
  . rename_i q;cases q
  . rename_i x r' q;cases q;split at h
    . rename_i l hl;obtain rfl:=ek h;obtain⟨xs,h1,h2⟩:=yo hl;exact⟨x::xs,by rw[h1];rfl,by rw[<- h2];rfl⟩
    . cases h
  . cases h
theorem FO{r:Row}{t:aa}(h:uw r=some t):∃xs:List Int,r.iH=xs.map (.int .u8)/\eM xs=t:=by
 unfold uw at h;split at h
 . rename_i ks;cases h;exact⟨ks,rfl,rfl⟩
 . exact yo h
 . cases h
theorem M7{xs:List Int}{l:List Value}(r:dG E (xs.map (.int .u8)) l):l=xs.map (.int .u8):=by
 induction xs generalizing l with
 |nil=>exact r
 |cons x xs ih=>
  obtain⟨y,ys,r0,rs,rfl⟩:=r;simp only[dz]at r0;subst r0;rw[ih rs];rfl
theorem gd:∀t:aa,eM (dP t)=t
 | []=>rfl
 |b::r=>by
  have ih:=gd r;simp only[eM,dP,bV,List.map_map]at ih ⊢;rw[ih];simp
theorem uE(xs:List Int):(eM xs).length=xs.length:=by simp[eM]
section
variable{st xt el ty:TypeId}{xd:TypeDesc}{i:TypeInfo}
theorem lI{z':Value}(hu:P.underlying st=some (.slice el))(hx:P.underlying xt=some xd)(M8:(∃y,xd= .slice y)\/xd= .string)
  (hi:P.info? el=some i) (hz:i.zero=some z') {base:Option Addr} {sLen sCap k:Nat} {x':Value} {old new:Array Value}
  (iQ:∀w1:World,(Builtin.lenOf x').run P w1= .ok k w1) (oy:∀w1:World,w1.heap=w.heap->(Builtin.firstCells i.size sLen (.slice base sLen sCap)).run P w1= .ok old w1)
  (sQ:∀w1:World,w1.heap=w.heap->(Builtin.firstCells i.size k x').run P w1= .ok new w1)
  (nw:sCap<sLen+k) (hb:0<i.bytes) (qP:(sLen+k)*i.bytes<=281474976710):
  (Builtin.append_ #[st,xt] ty #[.slice base sLen sCap,x']).run P w=
   .ok (.slice (some ⟨w.heap.size,0,none⟩) (sLen+k) (grownCap w (sLen+k) sCap el))
    (w.drew.alloc (.cells (old++new++Builtin.zeroCells z'.cells (grownCap w (sLen+k) sCap el-(sLen+k))) el)):=by
 have M9:Builtin.nextslicecap (sLen+k) sCap*i.bytes<=281474976710656:=growslice_fits nw be;have tO:¬(sLen+k<=sCap):=by omega
 have WC:¬(281474976710656<Builtin.nextslicecap (sLen+k) sCap*i.bytes):=by omega
 have G0:¬(i.bytes=0):=by omega
 have ho:=oy w.drew rfl;have hn:=sQ w.drew rfl;rcases M8 with⟨y,rfl⟩|rfl
 . simp[Builtin.append_,dj hu,dj hx,sizeOf,typeInfo,zeroValue,hi,hz,iQ,tO,WC,G0,Question.forced,newRow,grownCap,ho,hn]
 . simp[Builtin.append_,dj hu,dj hx,sizeOf,typeInfo,zeroValue,hi,hz,iQ,tO,WC,G0,Question.forced,newRow,grownCap,ho,hn]
theorem run_append_room(hu:P.underlying st=some (.slice el))(hx:P.underlying xt=some xd)(M8:(∃y,xd= .slice y)\/xd= .string)
  (hi:P.info? el=some i) {base:Option Addr} {sLen sCap k:Nat} {x':Value} {new:Array Value}
  (iQ:∀w1:World,(Builtin.lenOf x').run P w1= .ok k w1) (sQ:(Builtin.firstCells i.size k x').run P w= .ok new w) (nw:sLen+k<=sCap):
  (Builtin.append_ #[st,xt] ty #[.slice base sLen sCap,x']).run P w=
   ((match base with|some a=>storeCells (a.add (sLen*i.size)) new.toList|none=>pure ()).run P w).andThen fun _ w'=>.ok (.slice base (sLen+k) sCap) w':=by
 rcases M8 with⟨y,rfl⟩|rfl
 . cases base<;>simp[Builtin.append_,dj hu,dj hx,sizeOf,typeInfo,hi,iQ,nw,sQ]
 . cases base<;>simp[Builtin.append_,dj hu,dj hx,sizeOf,typeInfo,hi,iQ,nw,sQ]
end
theorem Na{eD:Array TypeId}{ty:TypeId}{args:ag}{c7:List Value}{r:R}(g:Good E h w)(hn:E.ι n=none)(ra:dG E args c7)
  (e:x7 P eD args h n=some r) (ha:eD.size=2):jX P E h n w (do pure (.value (<- Builtin.append_ eD ty c7.toArray))) r:=by
 unfold x7 at e;split at e
 . rename_i st xt s x h1 h2;obtain⟨s',_,rs,⟨x',_,rx,qg,rfl⟩,rfl⟩:=ra;simp only[dG]at qg;subst qg;have kH:eD=#[st,xt]:=by
    apply Array.ext
    . simpa using ha
    . intro i q1 q2;have:i=0\/i=1:=by simp at q2;omega
      rcases this with rfl|rfl
      . rw[bk q1]at h1;simpa using h1
      . rw[bk q1]at h2;simpa using h2
   subst kH;split at e
   . rename_i el xd he hx;split at e
     . rename_i i z Yj hi hz;have M8:(∃y,xd= .slice y)\/xd= .string:=by
        unfold Jv at Yj;split at Yj
        . exact .inl ⟨_,rfl⟩
        . exact .inr rfl
        . cases Yj
       have hu:=Hp he;split at e
       . rename_i hq;obtain⟨q1,q2,q3⟩:=hq;obtain⟨z',OK,M6,hz3⟩:=Em (P:=P) (E:=E) (w:=w) hi hz;have WD:z'.cells.size=i.size:=by have:=eK (gZ hz3);simp at this;omega
         split at e
         . rename_i k new ht;obtain⟨t1,t2,tsc,ki,t3,t4⟩:=Ht g rx ht;have LB:ki.size=k*i.size:=by have:=eK t4;simp at this;omega
           split at e
           . rename_i ah3;have JC:=Row.O6 ah3 tsc;split at e
             ·
              obtain⟨_,sW,rfl⟩:=rs;split at e
              . obtain rfl:=ek e;refine dM g (v':=.slice none 0 0) ?_ ⟨rfl,rfl,rfl⟩;rw[Sem.run_bind,run_append_room hu hx M8 hi t1 (t3 w rfl) be];rfl
              . rename_i OJ;have hk:0<k:=by
                 cases k with
                 |zero=>exact absurd rfl OJ
                 |succ _=>omega
                split at e
                . rename_i qP;cases ho:newObj h n (BM el x new)with
                  |none=>simp[ho]at e
                  |some p=>
                   obtain⟨h',n'⟩:=p;simp only[ho,an]at e;subst e;obtain⟨r1,r2⟩:=B5 qP;have fH:=lI (w:=w) (ty:=ty) hu hx M8 hi OK (base:=none) (sLen:=0) (sCap:=0) (x':=x') (old:=#[]) t1 (fun _ _=>rfl) t3 be q2 (by simpa using r1);simp only[bH]at fH;have nw:k<=grownCap w k 0 el:=by simp only[grownCap,Question.cut];omega
                   have lP:(#[]++ki++Builtin.zeroCells z'.cells (grownCap w k 0 el-k)).size=grownCap w k 0 el*i.size:=by
                    simp only[Array.size_append,mZ,WD,LB,Array.size_empty];rw[bH,<- cM];congr 1;omega
                   have Ek:lY E 0 new.iH (#[]++ki++Builtin.zeroCells z'.cells (grownCap w k 0 el-k)):=by
                    intro j v q;obtain⟨v',p1,p2⟩:=gz t4 j v q;refine⟨v',?_,p2⟩;have hj:j<ki.size:=by have:=(aF.1 p1).1;simpa using this
                    rw[bQ (by simp;omega)];simpa using p1
                   have hvs:dz (E.put n w.heap.size 0 (#[]++ki++Builtin.zeroCells z'.cells (grownCap w k 0 el-k)).size) (.di (some (n,0)) k k i.size) (.slice (some ⟨w.heap.size,0,none⟩) k (grownCap w k 0 el)):=by
                    refine⟨w.heap.size,0,0,grownCap w k 0 el,Env.eV,fun _=>rfl,aA _,nw,?_,rfl⟩;rw[lP];simp[Env.put]
                   have DT:(do pure (.value (<- Builtin.append_ #[st,xt] ty #[.slice none 0 0,x'])):Sem Next).run P w= .ok (.value (.slice (some ⟨w.heap.size,0,none⟩) k (grownCap w k 0 el))) (w.drew.alloc (.cells (#[]++ki++Builtin.zeroCells z'.cells (grownCap w k 0 el-k)) el)):=by
                    simp only[Sem.run_bind,fH,Result.andThen_ok,Sem.run_pure]
                   unfold BM at ho;split at ho
                   . rename_i t;obtain⟨gD,rfl,rfl⟩:=kG ho;simp only[jq]at ht;split at ht
                     case isFalse=>cases ht
                     rename_i fP;obtain⟨rfl,rfl⟩:=eY ht;have nT:=mG.1 Ek;have ua:=ij.alloc (n:=n) (ob:=.cells (#[]++ki++Builtin.zeroCells z'.cells (grownCap w t.length 0 el-t.length)) el) (o:=.iS el false t) (w:=w.drew) (g.same rfl) hn gD (by
                      refine⟨_,_,dP t,heap_alloc_new,rfl,by simp[Env.put,jP],⟨.inl rfl,fun _=>rfl⟩,gd t,fun j x hx=>?_⟩;have:=nT j x hx;simpa using this)
                     exact⟨_,_,_,.inl DT,hvs,(ij.drew g).trans ua,fun m' sP=>Env.fk sP,.inr rfl⟩
                   . exact sU (r:=new) (w1:=w.drew) (c:=#[]++ki++Builtin.zeroCells z'.cells (grownCap w k 0 el-k)) (el:=el) g hn tsc ho rfl rfl rfl rfl DT Ek hvs
                . cases e
             ·
              rename_i cN cs _;obtain⟨⟨a,cO,vs,rfl,nw,hd,Tw,mz⟩,yl⟩:=rs;obtain⟨_,yl⟩:=yl rfl;simp only[Value.slice.injEq]at yl;obtain⟨_,_,hq⟩:=yl;have hq:=hq.symm;subst hq;split at e
              . obtain rfl:=ek e;refine dM g (v':=.slice a cN cN) ?_ ⟨⟨a,cN,vs,rfl,nw,hd,Tw,mz⟩,fun _=>⟨a,rfl⟩⟩;rw[Sem.run_bind,run_append_room hu hx M8 hi t1 (t3 w rfl) be];have Tw:ki.toList=[]:=by simp at t2;simpa[t2]using eK t4
                rw[Tw];cases a<;>rfl
              . rename_i OJ;have hk:0<k:=by
                 cases k with
                 |zero=>exact absurd rfl OJ
                 |succ _=>omega
                split at e
                . rename_i qP;obtain⟨qP,hl⟩:=qP;cases ho:newObj h n ((Row.ds cs).app new).Eh with
                  |none=>simp[ho]at e
                  |some p=>
                   obtain⟨h',n'⟩:=p;simp only[ho,an]at e;subst e;obtain⟨r1,r2⟩:=B5 qP;obtain⟨t1',_,_,A9,t3',t4'⟩:=Ht (P:=P) (size:=i.size) (x:=.dL true cN cs) (x':=.slice a cN cN) g ⟨⟨a,cN,vs,rfl,nw,hd,Tw,mz⟩,fun _=>⟨a,rfl⟩⟩ (k:=cN) (new:=.ds cs) (by simp only[jq,aG hl]);have fH:=lI (w:=w) (ty:=ty) hu hx M8 hi OK (base:=a) (sLen:=cN) (sCap:=cN) (x':=x') (old:=A9) t1 t3' t3 be q2 r1;have nw:cN+k<=grownCap w (cN+k) cN el:=by simp only[grownCap,Question.cut];omega
                   have hol:A9.size=cN*i.size:=by have:=eK t4';simp[Row.iH,D.gr,hl]at this;omega
                   have lP:(A9++ki++Builtin.zeroCells z'.cells (grownCap w (cN+k) cN el-(cN+k))).size=grownCap w (cN+k) cN el*i.size:=by
                    simp only[Array.size_append,mZ,WD,LB,hol];rw[<- cM,<- cM];congr 1;omega
                   refine sU (r:=(Row.ds cs).app new) (w1:=w.drew) (c:=A9++ki++Builtin.zeroCells z'.cells (grownCap w (cN+k) cN el-(cN+k))) (el:=el) (v':=.slice (some ⟨w.heap.size,0,none⟩) (cN+k) (grownCap w (cN+k) cN el)) g hn (Row.JE (ja hd) tsc) ho rfl rfl rfl rfl ?_ ?_ ?_
                   . simp only[Sem.run_bind,fH,Result.andThen_ok,Sem.run_pure]
                   . refine yb (Row.JD _ _) ?_;intro j v q;have q':=ir t4' t4;obtain⟨v',p1,p2⟩:=gz q' j v q;refine⟨v',?_,p2⟩;have hj:=(aF.1 p1).1;rw[bQ (by simp at hj ⊢;omega)];rw[<- bK];simpa using p1
                   . refine⟨w.heap.size,0,0,grownCap w (cN+k) cN el,Env.eV,fun _=>rfl,aA _,nw,?_,rfl⟩;rw[lP];simp[Env.put]
                . cases e
             ·
              rename_i m o cN cO jo _;split at e
              . rename_i hq2;obtain⟨u1,u2,u3⟩:=hq2;subst u1;obtain⟨b,sh,o',fZ,kz,c1,c2,c3,c4,rfl⟩:=rs;obtain⟨r1,r2⟩:=B5 u2;split at e
                ·
                 rename_i Tx As s0 hm;split at e
                 case h_2=>cases e
                 rename_i t ht;split at e
                 case isFalse=>cases e
                 rename_i acs;obtain⟨⟨ho0,acu⟩,⟨iQ,yl⟩,DU,ah5⟩:=acs;obtain⟨b',sh',zw,c,fz,xs,wq,Yg,lP,⟨Bk,JL⟩,B3,l5⟩:=g.rel m _ hm;rw[kz]at zw;cases zw;subst Yg;have DS:o'=0:=by have:=c1 acu;omega
                 subst DS;obtain⟨ys,hy1,hy2⟩:=FO ht;rw[hy1]at t4;have hnv:=M7 t4;have aqI:xs.length=s0.length:=by rw[<- B3,uE]
                 generalize hX:xs.take cN=S5;have S4:S5.length=cN:=by rw[<- hX,bg];omega
                 have Tz:∀(j:Nat) (x:Int),S5[j]? =some x->c[j]? =some (.int .u8 x):=fun j x hx=>by
                  rw[<- hX,bM]at hx;split at hx
                  . exact l5 j x hx
                  . cases hx
                 have hyl:ys.length=k:=by have:=aN List.length hy1;simp at this;rw[<- this,t2,DU];omega
                 cases ho:newObj (h.set m none) n (.iS Tx As (s0.take cN++t))with
                 |none=>simp[ho]at e
                 |some p=>
                  obtain⟨h',n'⟩:=p;simp only[ho,an]at e;subst e;subst ah5;obtain⟨gD,rfl,rfl⟩:=kG ho;have Yk:eM (S5++ys)=s0.take cN++t:=by rw[<- hX,<- B3,<- hy2];simp[eM,cK]
                  have htl:(s0.take cN++t).length=cN+k:=by rw[<- Yk,uE,ax,S4,hyl]
                  by_cases qP:cN+k<=fZ
                  ·
                   have WE:0+(cN+k)*i.size<=c.size:=by
                    have:(cN+k)*i.size<=fZ*i.size:=cn _ qP;omega
                   rw[DU]at WE c4;have JH:∀v∈ki.toList,v.oneCell'=true:=by
                    intro v hv;rw[hnv]at hv;obtain⟨x,_,rfl⟩:=bA.1 hv;rfl
                   have Tp:ki.toList.length=k:=by rw[hnv,aY,hyl]
                   obtain⟨w',e1,e2,e3,e4,e5,e6,e7⟩:=tN (P:=P) (o:=cN) ki.toList 0 w c wq (fun j h1 h2 h3=>by
                    have hj:j<c.size:=by omega
                    cases As with
                    |true=>
                     have:=yl rfl;omega
                    |false=>have:=JL rfl;omega) JH be
                   have o7:cN+ki.toList.length<=c.size:=by omega
                   have JM:=ij.move (n:=n) (s':=0) (o:=.iS Tx As (s0.take cN++t)) g u3 gD hn ⟨_,hm,rfl⟩ kz e3 e4 e5 e6 e7 (by
                    refine⟨_,fz,S5++ys,e2,rfl,by rw[Nat.add_zero,jA o7];simp[Env.put,lP],⟨?_,JL⟩,Yk,fun j x hx=>?_⟩
                    . rw[htl];cases As with
                      |true=>have:=yl rfl;omega
                      |false=>exact .inl (JL rfl)
                    . rw[Nat.add_zero,mX o7];by_cases hj:j<cN
                      . rw[bw be]at hx;rw[aI be];exact Tz j x hx
                      . rw[cj be,S4]at hx;have Yi:j-cN<ys.length:=(aF.1 hx).1;rw[aG be,hnv,br,hx];rfl)
                   refine⟨_,w',.slice (some ⟨b,0,none⟩) (cN+k) fZ,.inl ?_,?_,JM,fun m' sP=>Env.fk sP,.inr rfl⟩
                   . rw[Sem.run_bind,run_append_room hu hx M8 hi t1 (t3 w rfl) qP];simp only[Addr.iU,DU,bj,bH,e1,Result.andThen_ok,Sem.run_pure]
                   . refine⟨b,0,0,fZ,Env.eV,fun _=>rfl,aA _,qP,?_,rfl⟩;simpa[Env.put,DU]using c4
                  ·
                   have v1:0+cN*i.size<=c.size:=by
                    have:cN*i.size<=fZ*i.size:=cn _ be;omega
                   have oy:(c.toList.drop 0).take (cN*i.size)=S5.map (Value.int .u8):=by
                    rw[DU,bj]at *;apply List.ext_getElem?;intro j;rw[bM,br];by_cases hj:j<cN
                    . rw[aG hj,bu];have Yi:j<S5.length:=by omega
                      rw[ay Yi];have:=Tz j _ (ay Yi);simpa using this
                    . rw[aI hj,bP be];rfl
                   have hf:∀w1:World,w1.heap=w.heap->(Builtin.firstCells i.size cN (.slice (some ⟨b,0,none⟩) cN fZ)).run P w1= .ok ((c.toList.drop 0).take (cN*i.size)).toArray w1:=fun w1 Ej=>by
                    simp only[Builtin.firstCells];exact run_loadCells (by rw[Ej];exact wq) v1
                   have fH:=lI (w:=w) (ty:=ty) hu hx M8 hi OK t1 hf t3 be q2 r1;have nw:cN+k<=grownCap w (cN+k) fZ Tx:=by simp only[grownCap,Question.cut];omega
                   have uf:=ij.forget g u3;rw[oy]at fH;have yp:((S5.map (Value.int .u8)).toArray).size=cN:=by simp[S4]
                   have Tp:ki.size=k:=by rw[LB,DU,bj]
                   generalize hC:((S5.map (Value.int .u8)).toArray++ki++Builtin.zeroCells z'.cells (grownCap w (cN+k) fZ Tx-(cN+k)))=C at fH;have hCs:C.size=grownCap w (cN+k) fZ Tx*i.size:=by
                    rw[<- hC,Array.size_append,Array.size_append,mZ,WD,Tp,yp,DU,bj,bj];omega
                   have ua:=ij.alloc (n:=n) (ob:=.cells C Tx) (o:=.iS Tx As (s0.take cN++t)) (w:=w.drew) (uf.good.same rfl) hn gD (by
                    refine⟨C,_,S5++ys,heap_alloc_new,rfl,by simp[Env.put,jP],⟨.inl rfl,fun _=>rfl⟩,Yk,fun j x hx=>?_⟩;rw[<- hC];have OL:j<(S5++ys).length:=(aF.1 hx).1;rw[ax]at OL;rw[bQ (by rw[Array.size_append,yp,Tp];omega)];by_cases hj:j<cN
                    . rw[bw be]at hx;rw[bQ be];simp[hx]
                    . rw[cj be]at hx;rw[Array.getElem?_append_right be,yp,<- bK,hnv,br,<- S4,hx];rfl)
                   refine⟨_,_,.slice (some ⟨w.heap.size,0,none⟩) (cN+k) (grownCap w (cN+k) fZ Tx),.inl (by simp only[Sem.run_bind,fH,Result.andThen_ok,Sem.run_pure]),?_,(uf.trans (ij.drew uf.good)).trans ua,fun m' sP=>Env.fk sP,.inr rfl⟩;refine⟨w.heap.size,0,0,grownCap w (cN+k) fZ Tx,Env.eV,fun _=>rfl,aA _,nw,?_,rfl⟩;simp[Env.put,jP,hCs]
                . rename_i ob _ hm;split at e
                  . rename_i rw0 w9;obtain⟨b',sh',zw,q0⟩:=g.rel m _ hm;obtain⟨⟨c,WA,fz,wq,lP,JL,Ek⟩,Yc⟩:=Hi w9 q0;rw[kz]at zw;cases zw;split at e
                    . rename_i old oy;have acv:old.sc/\o'+cN*i.size<=c.size/\dG E old.iH ((c.toList.drop o').take (cN*i.size)):=by
                       have G0:cN*i.size<=fZ*i.size:=cn _ be;refine⟨?_,be,?_⟩
                       . split at oy
                         . obtain rfl:=ek oy;trivial
                         . exact Row.O5 oy Yc
                       split at oy
                       . rename_i vJ;obtain⟨_,rfl⟩:=vJ;obtain rfl:=ek oy;simp[dG,Row.iH]
                       . rename_i vJ;rcases Nat.eq_zero_or_pos cN with hlz|hl
                         . obtain⟨_,Po⟩:=zF (Row.FE oy);rw[Po,hlz];simp[dG]
                         obtain⟨ku,Po⟩:=zF (Row.FE oy);rw[Po];have DS:o'=sh+o:=c1 be;subst DS;exact nQ Ek ku be
                      obtain⟨acw,v1,v2⟩:=acv;have hol:old.iH.length=cN*i.size:=by have:=eK v2;simp at this;omega
                      split at e
                      . rename_i OJ;obtain⟨_,hk1⟩:=OJ;obtain rfl:=ek e;subst hk1;refine dM g (v':=.slice (some ⟨b,o',none⟩) cN fZ) ?_ ⟨b,sh,o',fZ,kz,c1,c2,c3,c4,rfl⟩;have Tw:ki.toList=[]:=by simp at LB;simp[LB]
                        rw[Sem.run_bind,run_append_room hu hx M8 hi t1 (t3 w rfl) be,Tw];rfl
                      . rename_i OJ;cases ho:newObj (h.set m none) n (old.app new).Eh with
                        |none=>simp[ho]at e
                        |some p=>
                         obtain⟨h',n'⟩:=p;simp only[ho,an]at e;subst e;obtain⟨gD,rfl,rfl⟩:=kG ho;by_cases qP:cN+k<=fZ
                         ·
                          have WE:o'+(cN+k)*i.size<=c.size:=by
                           have:(cN+k)*i.size<=fZ*i.size:=cn _ qP;omega
                          have aqM:(cN+k)*i.size=cN*i.size+k*i.size:=cM _ _ _;have JH:∀v∈ki.toList,v.oneCell'=true:=by
                           intro v hv;obtain⟨j,hj⟩:=List.getElem?_of_mem hv;have fE:j<new.iH.length:=by rw[<- eK t4];exact(aF.1 hj).1
                           obtain⟨v',p1,p2⟩:=gz t4 j new.iH[j] (ay fE);rw[hj]at p1;cases p1;exact uA p2 (by rw[bn]at JC;exact JC _ (bY fE))
                          obtain⟨w',e1,e2,e3,e4,e5,e6,e7⟩:=mY (P:=P) (o:=o'+cN*i.size) ki.toList 0 w c wq JL JH (by simp;omega);have o7:o'+cN*i.size+ki.toList.length<=c.size:=by simp;omega
                          have JM:=ij.move (n:=n) (s':=o') (o:=(old.app new).Eh) g u3 gD hn ⟨_,hm,O7 w9⟩ kz e3 e4 e5 e6 e7 (by
                           have ku:E.le (E.put n b o' (E.β b)):=Env.q8 hn fun _ _ _ _ _=>rfl;refine yc ⟨_,WA,fz,e2,by rw[jA (by simpa using o7)];simp[Env.put,lP],by rw[jA (by simpa using o7)];exact JL,?_⟩ (Row.JE acw tsc);refine yb (Row.JD _ _) ?_;refine pR ku ?_;intro j v q;rw[mX (by simpa using o7)];by_cases hj:j<cN*i.size
                           . rw[bw be]at q;rw[aI be];obtain⟨v',p1,p2⟩:=gz v2 j v q;refine⟨v',?_,p2⟩;rw[bM,aG hj,bG]at p1;simpa using p1
                           . rw[cj be,hol]at q;have Yi:j-cN*i.size<new.iH.length:=(aF.1 q).1;rw[aG (by simp;omega)];obtain⟨v',p1,p2⟩:=gz t4 _ v q;refine⟨v',?_,p2⟩;rw[<- p1];congr 1;omega)
                          refine⟨_,w',.slice (some ⟨b,o',none⟩) (cN+k) fZ,.inl ?_,?_,JM,fun m' sP=>Env.fk sP,.inr rfl⟩
                          . rw[Sem.run_bind,run_append_room hu hx M8 hi t1 (t3 w rfl) qP];simp only[Addr.iU,e1,Result.andThen_ok,Sem.run_pure]
                          . refine⟨b,o',o',fZ,Env.eV,fun _=>rfl,aA _,qP,?_,rfl⟩;simpa[Env.put]using c4
                         ·
                          have hf:∀w1:World,w1.heap=w.heap->(Builtin.firstCells i.size cN (.slice (some ⟨b,o',none⟩) cN fZ)).run P w1= .ok ((c.toList.drop o').take (cN*i.size)).toArray w1:=fun w1 Ej=>by
                           simp only[Builtin.firstCells];exact run_loadCells (by rw[Ej];exact wq) v1
                          have fH:=lI (w:=w) (ty:=ty) hu hx M8 hi OK t1 hf t3 be q2 r1;have nw:cN+k<=grownCap w (cN+k) fZ el:=by simp only[grownCap,Question.cut];omega
                          have uf:=ij.forget g u3;have yp:((c.toList.drop o').take (cN*i.size)).toArray.size=cN*i.size:=by simp;omega
                          have Hu:(((c.toList.drop o').take (cN*i.size)).toArray++ki++Builtin.zeroCells z'.cells (grownCap w (cN+k) fZ el-(cN+k))).size=grownCap w (cN+k) fZ el*i.size:=by
                           rw[Array.size_append,Array.size_append,mZ,WD,LB,yp];rw[<- cM,<- cM];congr 1;omega
                          obtain⟨E',w',v',p1,p2,p3,p4,p5⟩:=sU (P:=P) (r:=old.app new) (s:=(do pure (.value (<- Builtin.append_ #[st,xt] ty #[.slice (some ⟨b,o',none⟩) cN fZ,x'])):Sem Next))
                           (v:=.di (some (n,0)) (cN+k) (cN+k) i.size) (w1:=w.drew) (c:=((c.toList.drop o').take (cN*i.size)).toArray++ki++Builtin.zeroCells z'.cells (grownCap w (cN+k) fZ el-(cN+k))) (el:=el)
                           (v':=.slice (some ⟨w.heap.size,0,none⟩) (cN+k) (grownCap w (cN+k) fZ el)) uf.good hn (Row.JE acw tsc) ho rfl rfl rfl rfl
                           (by simp only[Sem.run_bind,fH,Result.andThen_ok,Sem.run_pure])
                           (by
                            refine yb (Row.JD _ _) ?_;intro j v q;have q':=ir v2 t4;obtain⟨v',p1,p2⟩:=gz q' j v q;refine⟨v',?_,p2⟩;have hj:=(aF.1 p1).1;rw[bQ (by simp at hj ⊢;omega)];rw[<- bK];simpa using p1)
                           (by
                            refine⟨w.heap.size,0,0,grownCap w (cN+k) fZ el,Env.eV,fun _=>rfl,aA _,nw,?_,rfl⟩;rw[Hu];simp[Env.put])
                          exact⟨E',w',v',p1,p2,uf.trans p3,p4,p5⟩
                    . cases e
                  . cases e
                . cases e
              . cases e
             . cases e
           . cases e
         . cases e
       . cases e
     . cases e
   . cases e
 . cases e
end
theorem jg{kk:Option IntKind}{a b:D}(ha:gA kk a=true)(hb:gA kk b=true):iO a b=true↔a=b:=by
 cases kk with
 |none=>
  cases a<;>simp only[gA,aO]at ha;cases b<;>simp only[gA,aO]at hb;rename_i s t;simp only[iO,fT,beq_iff_eq,D.str.injEq]
 |some k=>
  cases a<;>simp only[gA,aO,bB]at ha;cases b<;>simp only[gA,aO,bB]at hb;subst ha;subst hb;simp[iO]
theorem Hv{φ:Nat->Option (Array Value)}{kd:TypeDesc}{kk:Option IntKind}{a b:D}{a' b':Value}(hd:mw kd kk=true)(ha:gA kk a=true)(hb:gA kk b=true)(ra:k8 φ a a')(rb:k8 φ b b'):
  Instr.sameNow kd a' b'=some (iO a b):=by
 cases kk with
 |none=>
  cases a<;>simp only[gA,aO]at ha;cases b<;>simp only[gA,aO]at hb;simp only[k8]at ra rb;subst ra;subst rb;cases kd<;>simp only[mw,aO]at hd;simp only[Instr.sameNow,iO];rw[rM]
 |some k=>
  cases a<;>simp only[gA,aO,bB]at ha;cases b<;>simp only[gA,aO,bB]at hb;subst ha;subst hb;simp only[k8]at ra rb;subst ra;subst rb;cases kd<;>simp only[mw,aO]at hd;simp[Instr.sameNow,iO];rfl
theorem vK{φ:Nat->Option (Array Value)}{kd:TypeDesc}{kk:Option IntKind}{k:D}{k':Value}(hd:mw kd kk=true)(hk:gA kk k=true)(rk:k8 φ k k'):
  ∀(l:ae) (fQ:List MapEntry) (i:Nat),jN φ l fQ->(∀e∈l,gA kk e.1=true)->
  match dc k l with
  |none=>Instr.findNow kd k' fQ i=some none/\(∀v,gY k v l=l++[(k,v)])/\lB k l=l/\k∉l.map (·.1)
  |some d=>∃j e',i<=j/\fQ[j-i]? =some e'/\k8 φ d e'.val/\k8 φ k e'.key/\Instr.findNow kd k' fQ i=some (some (j,e'.val))/\l[j-i]? =some (k,d)/\(∀v,gY k v l=l.set (j-i) (k,v))/\lB k l=l.eraseIdx (j-i)
 | [],fQ,i,r,_=>by
   simp only[jN]at r;subst r;simp only[dc];exact⟨rfl,fun _=>rfl,rfl,by simp⟩
 |x::l,_,i,r,hl=>by
  obtain⟨y,ys,r1,r2,rs,rfl⟩:=r;have hx:=hl x (by simp);have hs:=Hv hd hk hx rk r1;simp only[dc];cases hq:iO k x.1 with
  |true=>
   have e:=(jg hk hx).1 hq;refine⟨i,y,aA _,by simp,r2,by rw[e];exact r1,?_,?_,fun v=>?_,?_⟩
   . simp only[Instr.findNow,hs,hq]
   . simp[e]
   . simp[gY,hq]
   . simp[lB,hq]
  |false=>
   have ih:=vK hd hk rk l ys (i+1) rs fun e he=>hl e (by simp[he]);simp only;cases hL:dc k l with
   |none=>
    rw[hL]at ih;obtain⟨i1,i2,i3,i4⟩:=ih;refine⟨?_,fun v=>?_,?_,?_⟩
    . simp only[Instr.findNow,hs,hq,i1]
    . simp[gY,hq,i2]
    . simp[lB,hq,i3]
    . intro h;simp only[bV,aE]at h;rcases h with q|q
      . rw[(jg hk hx).2 q]at hq;cases hq
      . exact i4 q
   |some d=>
    rw[hL]at ih;obtain⟨j,e',j1,j2,j3,j4,j5,j6,j7,j8⟩:=ih;have hj:j-i=(j-(i+1))+1:=by omega
    refine⟨j,e',be,by rw[hj];simpa using j2,j3,j4,?_,by rw[hj];simpa using j6,fun v=>?_,?_⟩
    . simp only[Instr.findNow,hs,hq,j5]
    . rw[hj];simp[gY,hq,j7]
    . rw[hj];simp[lB,hq,j8]
theorem zI{kk:Option IntKind}{k d:D}(hk:gA kk k=true):∀{l:ae},(∀e∈l,gA kk e.1=true)->(l.map (·.1)).Nodup->(dc k l=some d↔(k,d)∈l)
 | [],_,_=>by simp[dc]
 |x::l,hl,hn=>by
  have hx:=hl x (by simp);simp only[bV,cg]at hn;simp only[dc];cases hq:iO k x.1 with
  |true=>
   have e:=(jg hk hx).1 hq;simp only[an,aE];constructor
   . intro h;left;rw[e,<- h]
   . rintro(h|h)
     . rw[<- h]
     . exact absurd (bA.2 ⟨(k,d),h,e⟩) hn.1
  |false=>
   have e:k≠x.1:=fun h=>by rw[(jg hk hx).2 h]at hq;cases hq
   simp only[aE];rw[zI hk (fun e he=>hl e (by simp[he])) hn.2];constructor
   . exact .inr
   . rintro(h|h)
     . exact absurd (by rw[<- h]) e
     . exact h
section
variable{kk:Option IntKind}{k:D}
theorem JN(hk:gA kk k=true){l es:ae}(h:List.Perm l es)(hl:∀e∈es,gA kk e.1=true)(hn:(es.map (·.1)).Nodup):dc k l=dc k es:=by
 have hl':∀e∈l,gA kk e.1=true:=fun e he=>hl e (h.mem_iff.1 he);have o8:(l.map (·.1)).Nodup:=(h.map _).nodup_iff.2 hn;apply Option.ext;intro d;rw[zI hk hl' o8,zI hk hl hn,h.mem_iff]
theorem Nb{v:D}(hk:gA kk k=true){l es:ae}(h:List.Perm l es):(∀e∈es,gA kk e.1=true)->(es.map (·.1)).Nodup->List.Perm (gY k v l) (gY k v es):=by
 induction h with
 |nil=>intro _ _;exact .refl _
 |cons x p ih=>
  intro hl hn;simp only[gY];cases iO k x.1 with
  |true=>exact .cons _ p
  |false=>exact .cons _ (ih (fun e he=>hl e (by simp[he])) (by simp at hn;exact hn.2))
 |swap x y l=>
  intro hl hn;simp only[gY];have hx:=hl x (by simp);have hy:=hl y (by simp);cases hqx:iO k x.1 with
  |true=>
   have ex:=(jg hk hx).1 hqx;cases hqy:iO k y.1 with
   |true=>
    have ey:=(jg hk hy).1 hqy;simp[<- ex,<- ey]at hn
   |false=>exact .swap _ _ _
  |false=>
   cases hqy:iO k y.1 with
   |true=>exact .swap _ _ _
   |false=>exact .swap _ _ _
 |trans p q Pp Pq=>
  intro hl hn;exact(Pp (fun e he=>hl e (q.mem_iff.1 he)) ((q.map _).nodup_iff.2 hn)).trans (Pq hl hn)
theorem Nc(hk:gA kk k=true){l es:ae}(h:List.Perm l es):(∀e∈es,gA kk e.1=true)->(es.map (·.1)).Nodup->List.Perm (lB k l) (lB k es):=by
 induction h with
 |nil=>intro _ _;exact .refl _
 |cons x p ih=>
  intro hl hn;simp only[lB];cases iO k x.1 with
  |true=>exact p
  |false=>exact .cons _ (ih (fun e he=>hl e (by simp[he])) (by simp at hn;exact hn.2))
 |swap x y l=>
  intro hl hn;simp only[lB];have hx:=hl x (by simp);have hy:=hl y (by simp);cases hqx:iO k x.1 with
  |true=>
   have ex:=(jg hk hx).1 hqx;cases hqy:iO k y.1 with
   |true=>
    have ey:=(jg hk hy).1 hqy;simp[<- ex,<- ey]at hn
   |false=>exact .refl _
  |false=>
   cases hqy:iO k y.1 with
   |true=>exact .refl _
   |false=>exact .swap _ _ _
 |trans p q Pp Pq=>
  intro hl hn;exact(Pp (fun e he=>hl e (q.mem_iff.1 he)) ((q.map _).nodup_iff.2 hn)).trans (Pq hl hn)
end
theorem En{φ:Nat->Option (Array Value)}{f:MapEntry->MapEntry}{x:D×D}(hf:∀y,k8 φ x.1 (f y).key/\k8 φ x.2 (f y).val):∀(l:ae) (es:List MapEntry) (i:Nat),jN φ l es->jN φ (l.set i x) (es.modify i f)
 | [],_,i,r=>by simp only[jN]at r;subst r;simp[jN]
 |a::l,_,i,r=>by
  obtain⟨y,ys,r1,r2,rs,rfl⟩:=r;cases i with
  |zero=>exact⟨f y,ys,(hf y).1,(hf y).2,rs,by simp⟩
  |succ i=>exact⟨y,_,r1,r2,En hf l ys i rs,by simp⟩
theorem B6{φ:Nat->Option (Array Value)}:∀(l:ae) (es:List MapEntry) (x:D×D) (y:MapEntry),jN φ l es->k8 φ x.1 y.key->k8 φ x.2 y.val->jN φ (l++[x]) (es++[y])
 | [],_,x,y,r,a,b=>by simp only[jN]at r;subst r;exact⟨y,[],a,b,rfl,rfl⟩
 |z::l,_,x,y,r,a,b=>by
  obtain⟨y0,ys,r1,r2,rs,rfl⟩:=r;exact⟨y0,_,r1,r2,B6 l ys x y rs a b,rfl⟩
theorem Az{φ:Nat->Option (Array Value)}:∀(l:ae) (es:List MapEntry) (i:Nat),jN φ l es->jN φ (l.eraseIdx i) (es.eraseIdx i)
 | [],_,i,r=>by simp only[jN]at r;subst r;simp[jN]
 |a::l,_,i,r=>by
  obtain⟨y,ys,r1,r2,rs,rfl⟩:=r;cases i with
  |zero=>exact rs
  |succ i=>exact⟨y,_,r1,r2,Az l ys i rs,rfl⟩
theorem yq{φ:Nat->Option (Array Value)}:∀{l:ae} {es:List MapEntry},jN φ l es->es.length=l.length
 | [],_,r=>by simp only[jN]at r;subst r;rfl
 |_::_,_,r=>by obtain⟨y,ys,_,_,rs,rfl⟩:=r;simp[yq rs]
open Classical in
theorem zJ{kk:Option IntKind}{k v:D}(hk:gA kk k=true):∀(l:ae),(∀e∈l,gA kk e.1=true)->(gY k v l).map (·.1)=if k∈l.map (·.1)then l.map (·.1)else l.map (·.1)++[k]
 | [],_=>by simp[gY]
 |x::l,hl=>by
  have hx:=hl x (by simp);simp only[gY];cases hq:iO k x.1 with
  |true=>
   have e:=(jg hk hx).1 hq;simp[e]
  |false=>
   have e:k≠x.1:=fun h=>by rw[(jg hk hx).2 h]at hq;cases hq
   simp only[bV,zJ hk l fun e he=>hl e (by simp[he]),aE,e,false_or];split<;>simp
theorem Hw{k:D}:∀(l:ae),List.Sublist (lB k l) l
 | []=>.slnil
 |x::l=>by
  simp only[lB];cases iO k x.1 with
  |true=>exact List.sublist_cons_self _ _
  |false=>exact .cons_cons _ (Hw l)
open Classical in
section
variable{φ:Nat->Option (Array Value)}{kd:TypeDesc}{kk:Option IntKind}{es:ae}{fQ:Array MapEntry}{ef:Nat}{k:D}{k':Value}
theorem jO.qi{v:D}{k' v':Value}(r:jO φ kk es fQ.toList ef)(hd:mw kd kk=true)(hk:gA kk k=true)(rk:k8 φ k k')(rv:k8 φ v v'):
  (Instr.findNow kd k' fQ.toList 0=some none/\jO φ kk (gY k v es) (fQ.push { key:=k',val:=v',born:=ef }).toList (ef+1)) \/
  ∃(j:Nat) (e':MapEntry),Instr.findNow kd k' fQ.toList 0=some (some (j,e'.val))/\fQ[j]? =some e'/\k8 φ k e'.key/\jO φ kk (gY k v es) (fQ.modify j fun e=>{ e with key:=k',val:=v' }).toList ef:=by
 obtain⟨l,hp,hr⟩:=r.row;have hl:∀e∈l,gA kk e.1=true:=fun e he=>r.kind e (hp.mem_iff.1 he);have Pr:=Nb (v:=v) hk hp r.kind r.keys;have Hx:((gY k v es).map (·.1)).Nodup:=by
  rw[zJ hk es r.kind];split
  . exact r.keys
  . rename_i h;exact List.nodup_append.2 ⟨r.keys,by simp,fun a ha b hb=>by simp at hb;subst hb;intro q;subst q;exact h ha⟩
 have Hy:∀e∈gY k v es,gA kk e.1=true:=by
  intro e he;have:e.1∈(gY k v es).map (·.1):=bA.2 ⟨e,he,rfl⟩;rw[zJ hk es r.kind]at this;have base:e.1∈es.map (·.1)->gA kk e.1=true:=fun h=>by obtain⟨x,hx,q⟩:=bA.1 h;rw[<- q];exact r.kind x hx
  split at this
  . exact base this
  . rcases aU.1 this with h|h
    . exact base h
    . simp at h;rw[h];exact hk
 have hf:=vK hd hk rk l fQ.toList 0 hr hl;cases hL:dc k l with
 |none=>
  rw[hL]at hf;obtain⟨h1,h2,_,_⟩:=hf;refine .inl ⟨h1,⟨⟨_,Pr,?_⟩,Hx,Hy,?_,?_⟩⟩
  . rw[h2,Array.toList_push];exact B6 l fQ.toList (k,v) _ hr rk rv
  . intro e he;rw[Array.toList_push]at he;rcases aU.1 he with q|q
    . have:=r.old e q;omega
    . simp at q;subst q;simp
  . rw[Array.toList_push,aX];refine List.nodup_append.2 ⟨r.born,by simp,fun a ha b hb=>?_⟩;simp at hb;subst hb;obtain⟨e,he,q⟩:=bA.1 ha;have:=r.old e he;omega
 |some d=>
  rw[hL]at hf;obtain⟨j,e',_,h2,h3,h4,h5,h6,h7,_⟩:=hf;simp only[Nat.sub_zero]at h2 h6 h7;have LF:(fQ.modify j fun e=>{ e with key:=k',val:=v' }).toList.map (·.born)=fQ.toList.map (·.born):=by
   rw[Array.toList_modify];apply List.ext_getElem?;intro i;simp only[br,List.getElem?_modify];by_cases OM:j=i
   . simp[OM];cases fQ.toList[i]? <;>rfl
   . simp[OM]
  refine .inr ⟨j,e',h5,by rw[<- bK];exact h2,h4,⟨⟨_,Pr,?_⟩,Hx,Hy,?_,?_⟩⟩
  . rw[h7,Array.toList_modify];exact En (f:=fun e=>{ e with key:=k',val:=v' }) (fun y=>⟨rk,rv⟩) l fQ.toList j hr
  . intro e he;have:e.born∈(fQ.modify j fun e=>{ e with key:=k',val:=v' }).toList.map (·.born):=bA.2 ⟨e,he,rfl⟩;rw[LF]at this;obtain⟨e0,he0,q⟩:=bA.1 this;rw[<- q];exact r.old e0 he0
  . rw[LF];exact r.born
theorem jO.del(r:jO φ kk es fQ.toList ef)(hd:mw kd kk=true)(hk:gA kk k=true)(rk:k8 φ k k'):
  (Instr.findNow kd k' fQ.toList 0=some none/\jO φ kk (lB k es) fQ.toList ef) \/
  ∃(j:Nat) (e':MapEntry),Instr.findNow kd k' fQ.toList 0=some (some (j,e'.val))/\jO φ kk (lB k es) (fQ.eraseIdxIfInBounds j).toList ef:=by
 obtain⟨l,hp,hr⟩:=r.row;have hl:∀e∈l,gA kk e.1=true:=fun e he=>r.kind e (hp.mem_iff.1 he);have Pr:=Nc hk hp r.kind r.keys;have uF:List.Sublist (lB k es) es:=Hw es;have Hx:((lB k es).map (·.1)).Nodup:=r.keys.sublist (uF.map _);have Hy:∀e∈lB k es,gA kk e.1=true:=fun e he=>r.kind e (uF.mem he);have hf:=vK hd hk rk l fQ.toList 0 hr hl;cases hL:dc k l with
 |none=>
  rw[hL]at hf;obtain⟨h1,_,h3,_⟩:=hf;exact .inl ⟨h1,⟨⟨l,by rw[h3]at Pr;exact Pr,hr⟩,Hx,Hy,r.old,r.born⟩⟩
 |some d=>
  rw[hL]at hf;obtain⟨j,e',_,h2,_,_,h5,_,_,h8⟩:=hf;simp only[Nat.sub_zero]at h2 h8;have ht:(fQ.eraseIdxIfInBounds j).toList=fQ.toList.eraseIdx j:=Array.toList_eraseIdxIfInBounds;refine .inr ⟨j,e',h5,⟨⟨_,Pr,?_⟩,Hx,Hy,?_,?_⟩⟩
  . rw[h8,ht];exact Az l fQ.toList j hr
  . intro e he;rw[ht]at he;exact r.old e ((List.eraseIdx_sublist _ _).mem he)
  . rw[ht];exact r.born.sublist ((List.eraseIdx_sublist _ _).map _)
theorem jO.look(r:jO φ kk es fQ.toList ef)(hd:mw kd kk=true)(hk:gA kk k=true)(rk:k8 φ k k'):
  match dc k es with
  |none=>Instr.findNow kd k' fQ.toList 0=some none
  |some d=>∃j v',Instr.findNow kd k' fQ.toList 0=some (some (j,v'))/\k8 φ d v':=by
 obtain⟨l,hp,hr⟩:=r.row;have hl:∀e∈l,gA kk e.1=true:=fun e he=>r.kind e (hp.mem_iff.1 he);have hf:=vK hd hk rk l fQ.toList 0 hr hl;rw[<- JN hk hp r.kind r.keys];cases hL:dc k l with
 |none=>rw[hL]at hf;exact hf.1
 |some d=>
  rw[hL]at hf;obtain⟨j,e',_,_,h3,_,h5,_⟩:=hf;exact⟨j,e'.val,h5,h3⟩
end
theorem jO.length{φ:Nat->Option (Array Value)}{kk:Option IntKind}{es:ae}{fQ:List MapEntry}{ef:Nat}(r:jO φ kk es fQ ef):fQ.length=es.length:=by
 obtain⟨l,hp,hr⟩:=r.row;rw[yq hr,hp.length_eq]
theorem vL{E:Env}{x:V}{d:D}{x':Value}(e:keyOf x=some d)(r:dz E x x'):k8 E.φ d x':=by
 unfold keyOf at e;split at e<;>first|(cases e;exact r)|cases e
theorem B7{x:V}{d:D}{kd:TypeDesc}{kk:Option IntKind}(e:keyOf x=some d)(hd:mw kd kk=true)(hk:gA kk d=true):BL kd x=true:=by
 unfold keyOf at e;split at e
 . cases e;cases kk<;>simp only[gA,aO]at hk;cases kd<;>simp only[mw,aO]at hd;rfl
 . cases e;cases kk<;>simp only[gA,aO]at hk;cases kd<;>simp only[mw,aO]at hd;rfl
 . cases e
section
variable{P:Program}{E:Env}{h:Tr O}{n:Nat}{w:World}
theorem fa{b:Nat}{o:Obj}(hb:w.heap[b]? =some o)(hn:∀c el fz,o≠ .cells c el fz):(getObj b).run P w= .ok o w:=by
 simp only[getObj,Sem.run,hb]
theorem mH{b:Nat}{o o':Obj}(hb:w.heap[b]? =some o)(hn:∀c el fz,o≠ .cells c el fz):(setObj b o').run P w= .ok () { w with heap:=w.heap.setIfInBounds b o' }:=by
 simp only[setObj,Sem.run,hb]
theorem yu:∀{xs:List (V×V×Nat)} {ys:List MapEntry},kC E xs ys->ys.length=xs.length
 | [],_,r=>by simp only[kC]at r;subst r;rfl
 |_::_,_,r=>by obtain⟨y,ys,_,_,_,rs,rfl⟩:=r;simp[yu rs]
theorem yw{m:Nat}{es:List (V×V×Nat)}{ef:Nat}(g:Good E h w)(hm:h.get m=some (.map es ef)):
  ∃b fQ,E.ι m=some (b,0)/\w.heap[b]? =some (.map fQ ef)/\kC E es fQ.toList:=by
 obtain⟨b,s,hi,hs,fQ,h1,h2⟩:=g.rel m _ hm;subst hs;exact⟨b,fQ,hi,h1,h2⟩
theorem uG{m:Nat}{kk:Option IntKind}{es:ae}(g:Good E h w)(hm:h.get m=some (.dD kk es)):
  ∃b fQ ef,E.ι m=some (b,0)/\w.heap[b]? =some (.map fQ ef)/\jO E.φ kk es fQ.toList ef:=by
 obtain⟨b,s,hi,hs,fQ,ef,h1,h2⟩:=g.rel m _ hm;subst hs;exact⟨b,fQ,ef,hi,h1,h2⟩
theorem Yl{eD:Array TypeId}{ty:TypeId}{args:ag}{c7:List Value}{v:V}(g:Good E h w)(ra:dG E args c7)(e:M0 P eD args h=some v):
  jX P E h n w (do pure (.value (<- Builtin.len_ eD ty c7.toArray))) (.val v h n):=by
 unfold M0 at e;split at e
 . rename_i t x h1;obtain⟨x',_,rx,qg,rfl⟩:=ra;simp only[dG]at qg;subst qg;split at e
   . rename_i s hu;obtain rfl:=ek e;simp only[dz]at rx;subst rx;refine dM g (v':=.int .i64 s.length) ?_ rfl;have lP:(⟨s.toArray⟩:ByteArray).size=s.length:=by show s.toArray.size=_;simp
     simp[Builtin.len_,h1,dj hu,goInt,lP]
   . rename_i _ k _ hu;obtain rfl:=ek e;refine dM g (v':=.int .i64 k) ?_ rfl;simp[Builtin.len_,h1,dj hu,goInt]
   . rename_i a cN cO jo hu;obtain rfl:=ek e;refine dM g (v':=.int .i64 cN) ?_ rfl;cases a with
     |none=>obtain⟨rfl,rfl,rfl⟩:=rx;simp[Builtin.len_,h1,dj hu,goInt]
     |some a=>obtain⟨_,_,_,_,_,_,_,_,_,rfl⟩:=rx;simp[Builtin.len_,h1,dj hu,goInt]
   . rename_i f cN cs hu;obtain rfl:=ek e;refine dM g (v':=.int .i64 cN) ?_ rfl;obtain⟨⟨_,_,_,rfl,_⟩,_⟩:=rx;simp[Builtin.len_,h1,dj hu,goInt]
   . rename_i hu;obtain rfl:=ek e;simp only[dz]at rx;subst rx;refine dM g (v':=.int .i64 0) ?_ rfl;simp[Builtin.len_,h1,dj hu,goInt]
   . rename_i m hu;split at e
     . rename_i es ef hm;obtain rfl:=ek e;obtain⟨b,fQ,hi,hb,DH⟩:=yw g hm;obtain⟨b',kz,rfl⟩:=rx;rw[hi]at kz;cases kz;refine dM g (v':=.int .i64 es.length) ?_ rfl;have hl:=yu DH;simp only[Array.length_toList]at hl;simp[Builtin.len_,h1,dj hu,goInt,fa (P:=P) hb (by intro _ _ _ q;cases q),hl]
     . rename_i kk es hm;obtain rfl:=ek e;obtain⟨b,fQ,ef,hi,hb,DH⟩:=uG g hm;obtain⟨b',kz,rfl⟩:=rx;rw[hi]at kz;cases kz;refine dM g (v':=.int .i64 es.length) ?_ rfl;have hl:=DH.length;simp only[Array.length_toList]at hl;simp[Builtin.len_,h1,dj hu,goInt,fa (P:=P) hb (by intro _ _ _ q;cases q),hl]
     . cases e
   . cases e
 . cases e
theorem Hz:∀(xs:ag) (x v:V) (x':Value) (BQ:List Value),dz E x x'->dG E xs BQ->G8 x xs=some v->
  ∃v',(BQ.foldlM Builtin.max2 x').run P w= .ok v' w/\dz E v v'
 | [],x,v,x',BQ,rx,rs,e=>by
   simp only[dG]at rs;subst rs;have:v=x:=by cases x<;>simp[G8]at e<;>exact e.symm
   subst this;exact⟨x',rfl,rx⟩
 |y::ys,x,v,x',_,rx,rs,e=>by
  obtain⟨y',Jz,ry,rys,rfl⟩:=rs;cases x with
  |int k a=>cases y with
   |int j b=>
    simp only[G8]at e;simp only[dz]at rx ry;subst rx;subst ry;obtain⟨v',h1,h2⟩:=Hz ys (.int k (if b>a then b else a)) v (.int k (if b>a then b else a)) Jz rfl rys e;refine⟨v',?_,h2⟩;simp only[List.foldlM_cons,Sem.run_bind,Builtin.max2,Sem.run_pure,Result.andThen_ok];exact h1
   |_=>simp[G8]at e
  |_=>simp[G8]at e
theorem HA:∀(xs:ag) (x v:V) (x':Value) (BQ:List Value),dz E x x'->dG E xs BQ->G9 x xs=some v->
  ∃v',(BQ.foldlM Builtin.min2 x').run P w= .ok v' w/\dz E v v'
 | [],x,v,x',BQ,rx,rs,e=>by
   simp only[dG]at rs;subst rs;have:v=x:=by cases x<;>simp[G9]at e<;>exact e.symm
   subst this;exact⟨x',rfl,rx⟩
 |y::ys,x,v,x',_,rx,rs,e=>by
  obtain⟨y',Jz,ry,rys,rfl⟩:=rs;cases x with
  |int k a=>cases y with
   |int j b=>
    simp only[G9]at e;simp only[dz]at rx ry;subst rx;subst ry;obtain⟨v',h1,h2⟩:=HA ys (.int k (if b<a then b else a)) v (.int k (if b<a then b else a)) Jz rfl rys e;refine⟨v',?_,h2⟩;simp only[List.foldlM_cons,Sem.run_bind,Builtin.min2,Sem.run_pure,Result.andThen_ok];exact h1
   |_=>simp[G9]at e
  |_=>simp[G9]at e
section
variable{eD:Array TypeId}{ty:TypeId}
theorem Ym{x v:V}{xs:ag}{c7:List Value}(g:Good E h w)(ra:dG E (x::xs) c7)(e:G8 x xs=some v):
  jX P E h n w (do pure (.value (<- Builtin.max_ eD ty c7.toArray))) (.val v h n):=by
 obtain⟨x',BQ,rx,rxs,rfl⟩:=ra;obtain⟨v',h1,h2⟩:=Hz (P:=P) (w:=w) xs x v x' BQ rx rxs e;refine dM g (v':=v') ?_ h2;simp only[Builtin.max_,Sem.run_bind,h1,Result.andThen_ok,Sem.run_pure]
theorem Yn{x v:V}{xs:ag}{c7:List Value}(g:Good E h w)(ra:dG E (x::xs) c7)(e:G9 x xs=some v):
  jX P E h n w (do pure (.value (<- Builtin.min_ eD ty c7.toArray))) (.val v h n):=by
 obtain⟨x',BQ,rx,rxs,rfl⟩:=ra;obtain⟨v',h1,h2⟩:=HA (P:=P) (w:=w) xs x v x' BQ rx rxs e;refine dM g (v':=v') ?_ h2;simp only[Builtin.min_,Sem.run_bind,h1,Result.andThen_ok,Sem.run_pure]
end
theorem Nd{kd:TypeDesc}{a b:V}{a' b':Value}{r:Bool}(ra:dz E a a')(rb:dz E b b')(e:x5 kd a b=some r):Instr.sameNow kd a' b'=some r:=by
 unfold x5 at e;split at e
 . simp only[dz]at ra rb;subst ra;subst rb;split at e
   . rename_i hk;obtain rfl:=ek e;simp[Instr.sameNow,hk]
   . cases e
 . simp only[dz]at ra rb;subst ra;subst rb;obtain rfl:=ek e;simp only[Instr.sameNow];rw[rM]
 . cases e
theorem vM{kd:TypeDesc}{k:V}{k':Value}(rk:dz E k k'):∀(es:List (V×V×Nat)) (fQ:List MapEntry) (i:Nat) (r:Option (Nat×V×V×Nat)),kC E es fQ->uo kd k es i=some r->
  match r with
  |none=>Instr.findNow kd k' fQ i=some none
  |some (j,e)=>∃e',i<=j/\es[j-i]? =some e/\fQ[j-i]? =some e'/\x5 kd k e.1=some true/\dz E e.1 e'.key/\dz E e.2.1 e'.val/\e'.born=e.2.2/\Instr.findNow kd k' fQ i=some (some (j,e'.val))
 | [],fQ,i,r,rs,e=>by
   simp only[kC]at rs;subst rs;simp only[uo,an]at e;subst e;simp[Instr.findNow]
 |x::xs,_,i,r,rs,e=>by
  obtain⟨y,ys,r1,r2,r3,rs,rfl⟩:=rs;simp only[uo]at e;cases hk:x5 kd k x.1 with
  |none=>simp[hk]at e
  |some b=>
   have hs:=Nd rk r1 hk;cases b with
   |true=>
    simp only[hk,an]at e;subst e;exact⟨y,aA _,by simp,by simp,hk,r1,r2,r3,by simp[Instr.findNow,hs]⟩
   |false=>
    simp only[hk]at e;have ih:=vM rk xs ys (i+1) r rs e;cases r with
    |none=>simp only at ih ⊢;simp[Instr.findNow,hs,ih]
    |some q=>
     obtain⟨j,e0⟩:=q;obtain⟨e',a1,a2,a3,a4,a5,a6,a7,a8⟩:=ih;have hj:j-i=(j-(i+1))+1:=by omega
     exact⟨e',be,by rw[hj];simpa using a2,by rw[hj];simpa using a3,a4,a5,a6,a7,by simp[Instr.findNow,hs,a8]⟩
section
variable{kt:TypeId}{kd:TypeDesc}{k:V}{k':Value}{b:Bool}
theorem gx{fQ:List MapEntry}{r:Option (Nat×Value)}(hu:P.underlying kt=some kd)(e:Instr.findNow kd k' fQ 0=some r):
  (Instr.findKey kt k' fQ).run P w= .ok r w:=by
 simp[Instr.findKey,dj hu,e]
theorem wG(d:Nat)(hu:P.underlying kt=some kd)(rk:dz E k k')(e:BL kd k=true):(Instr.checkKey b (d+1) kt k').run P w= .ok () w:=by
 unfold BL at e;split at e
 . simp only[dz]at rk;subst rk;simp only[Instr.checkKey,Sem.run_bind,dj hu,Result.andThen_ok];rfl
 . simp only[dz]at rk;subst rk;simp only[Instr.checkKey,Sem.run_bind,dj hu,Result.andThen_ok];rfl
 . cases e
theorem jb(hu:P.underlying kt=some kd)(rk:dz E k k')(e:BL kd k=true):(Instr.checkKey b 10000 kt k').run P w= .ok () w:=
 wG 9999 hu rk e
end
theorem Nf{t:TypeId}{x k v:V}{ok:Bool}{x' k':Value}(g:Good E h w)(rx:dz E x x')(rk:dz E k k')(e:vC P t h x k ok=some v):
  jX P E h n w (do pure (.value (<- Instr.lookup t x' k' ok))) (.val v h n):=by
 unfold vC at e;split at e
 . rename_i kt et hu;split at e
   . rename_i kd z hk hz;split at e
     . rename_i r kk es hm;split at e
       . rename_i kq JO;split at e
         . rename_i hb;simp only[aC]at hb;simp only[an]at e;obtain⟨z',OK,M6,_⟩:=lZ (w:=w) E hz;obtain⟨b,fQ,ef,hi,wq,hr⟩:=uG g hm;obtain⟨b',kz,rfl⟩:=rx;rw[hi]at kz;cases kz;have tU:=fa (P:=P) wq (by intro _ _ _ q;cases q);have LG:=B7 JO hb.1 hb.2;have HB:=jb (P:=P) (w:=w) (b:=fQ.isEmpty) hk rk LG;have TA:=hr.look hb.1 hb.2 (vL JO rk);cases hL:dc kq es with
           |none=>
            rw[hL]at TA e;have fH:(Instr.lookup t (.map (some b)) k' ok).run P w= .ok (if ok then .tuple #[z',.bool false]else z') w:=by
             simp only[Instr.lookup,Sem.run_bind,dj hu,Result.andThen_ok,Sem.run_pure,tU,HB,gx hk TA,OK]
            subst e;refine dM g (v':=if ok then .tuple #[z',.bool false]else z') (by rw[Sem.run_bind,fH];rfl) ?_;cases ok with
            |true=>exact⟨[z',.bool false],⟨z',_,M6,⟨.bool false,[],rfl,rfl,rfl⟩,rfl⟩,rfl⟩
            |false=>exact M6
           |some d=>
            rw[hL]at TA e;obtain⟨j,v',q1,q2⟩:=TA;have fH:(Instr.lookup t (.map (some b)) k' ok).run P w= .ok (if ok then .tuple #[v',.bool true]else v') w:=by
             simp only[Instr.lookup,Sem.run_bind,dj hu,Result.andThen_ok,Sem.run_pure,tU,HB,gx hk q1]
            subst e;refine dM g (v':=if ok then .tuple #[v',.bool true]else v') (by rw[Sem.run_bind,fH];rfl) ?_;cases ok with
            |true=>exact⟨[v',.bool true],⟨v',_,lX d v' q2,⟨.bool true,[],rfl,rfl,rfl⟩,rfl⟩,rfl⟩
            |false=>exact lX d v' q2
         . cases e
       . cases e
     rename_i x _ _ JP;split at e
     . rename_i LG;obtain⟨z',OK,M6,_⟩:=lZ (w:=w) E hz;have Pg:∀(es:List (V×V×Nat)) (fQ:Array MapEntry),kC E es fQ.toList->(match uo kd k es 0 with
         |some (some (_,_,v,_))=>some (if ok then V.eo [v,.bool true]else v)
         |some none=>some (if ok then V.eo [z,.bool false]else z)
         |none=>none)=some v->
         ((Instr.findKey kt k' fQ.toList).run P w= .ok none w/\dz E v (if ok then .tuple #[z',.bool false]else z')) \/
         ∃j v',(Instr.findKey kt k' fQ.toList).run P w= .ok (some (j,v')) w/\dz E v (if ok then .tuple #[v',.bool true]else v'):=by
        intro es fQ DH e;cases hf:uo kd k es 0 with
        |none=>simp[hf]at e
        |some r=>
         have hr:=vM rk es fQ.toList 0 r DH hf;cases r with
         |none=>
          simp only[hf,an]at e;subst e;refine .inl ⟨gx hk hr,?_⟩;cases ok with
          |true=>exact⟨[z',.bool false],⟨z',_,M6,⟨.bool false,[],rfl,rfl,rfl⟩,rfl⟩,rfl⟩
          |false=>exact M6
         |some q=>
          obtain⟨j,k0,v0,n0⟩:=q;simp only[hf,an]at e;subst e;obtain⟨e',_,_,_,_,_,a6,_,a8⟩:=hr;refine .inr ⟨j,e'.val,gx hk a8,?_⟩;cases ok with
          |true=>exact⟨[e'.val,.bool true],⟨e'.val,_,a6,⟨.bool true,[],rfl,rfl,rfl⟩,rfl⟩,rfl⟩
          |false=>exact a6
       cases x with
       |map m=>
        cases m with
        |none=>
         simp only at e;simp only[dz]at rx;subst rx;rcases Pg [] #[] (by simp[kC]) e with⟨m1,m3⟩|⟨j,v',m1,m3⟩
         . refine dM g ?_ m3;simp only[Instr.lookup,Sem.run_bind,dj hu,Result.andThen_ok,Sem.run_pure,jb (b:=(#[]:Array MapEntry).isEmpty) hk rk LG,m1,OK]
         . refine dM g ?_ m3;simp only[Instr.lookup,Sem.run_bind,dj hu,Result.andThen_ok,Sem.run_pure,jb (b:=(#[]:Array MapEntry).isEmpty) hk rk LG,m1]
        |some m=>
         simp only at e;cases hm:h.get m with
         |none=>simp[hm]at e
         |some o=>
          cases o with
          |map es ef=>
           simp only[hm]at e;obtain⟨b,fQ,hi,hb,DH⟩:=yw g hm;obtain⟨b',kz,rfl⟩:=rx;rw[hi]at kz;cases kz;have tU:=fa (P:=P) hb (by intro _ _ _ q;cases q);rcases Pg es fQ DH e with⟨m1,m3⟩|⟨j,v',m1,m3⟩
           . refine dM g ?_ m3;simp only[Instr.lookup,Sem.run_bind,dj hu,Result.andThen_ok,Sem.run_pure,tU,jb (b:=fQ.isEmpty) hk rk LG,m1,OK]
           . refine dM g ?_ m3;simp only[Instr.lookup,Sem.run_bind,dj hu,Result.andThen_ok,Sem.run_pure,tU,jb (b:=fQ.isEmpty) hk rk LG,m1]
          |_=>simp[hm]at e
       |_=>simp at e
     . cases e
   . cases e
 . cases e
theorem pH{f:V×V×Nat->V×V×Nat}{f':MapEntry->MapEntry}(hf:∀x y,dz E x.1 y.key->dz E x.2.1 y.val->y.born=x.2.2->dz E (f x).1 (f' y).key/\dz E (f x).2.1 (f' y).val/\(f' y).born=(f x).2.2):
  ∀(xs:List (V×V×Nat)) (ys:List MapEntry) (i:Nat),kC E xs ys->kC E (sJ xs i f) (ys.modify i f')
 | [],_,i,r=>by simp only[kC]at r;subst r;simp[sJ,kC]
 |x::xs,_,i,r=>by
  obtain⟨y,ys,a,b,c,rs,rfl⟩:=r;cases i with
  |zero=>obtain⟨p,q,s⟩:=hf x y a b c;exact⟨f' y,ys,p,q,s,rs,by simp⟩
  |succ i=>exact⟨y,_,a,b,c,pH hf xs ys i rs,by simp⟩
theorem xb:∀(xs:List (V×V×Nat)) (ys:List MapEntry) (x:V×V×Nat) (y:MapEntry),kC E xs ys->dz E x.1 y.key->dz E x.2.1 y.val->y.born=x.2.2->kC E (xs++[x]) (ys++[y])
 | [],_,x,y,r,a,b,c=>by simp only[kC]at r;subst r;exact⟨y,[],a,b,c,rfl,rfl⟩
 |z::zs,_,x,y,r,a,b,c=>by
  obtain⟨y0,ys,a0,b0,c0,rs,rfl⟩:=r;exact⟨y0,_,a0,b0,c0,xb zs ys x y rs a b c,rfl⟩
section
variable{m b ef clock':Nat}
theorem yx{es tP:List (V×V×Nat)}{fQ Ba:Array MapEntry}(g:Good E h w)(gD:m<fI)(hm:h.get m=some (.map es ef))(hi:E.ι m=some (b,0))(hb:w.heap[b]? =some (.map fQ ef))
  (DH:kC E tP Ba.toList):ij E h w E (h.set m (some (.map tP clock'))) { w with heap:=w.heap.setIfInBounds b (.map Ba clock') }:=by
 have fE:b<w.heap.size:=(aQ.1 hb).1;refine ij.write g gD ⟨_,hm,rfl⟩ hi (by simp) rfl rfl rfl (fun x hx=>?_) ⟨rfl,Ba,?_,DH⟩
 . simp[Ne.symm hx]
 . simp[fE]
theorem yy{kk:Option IntKind}{es tP:ae}{fQ Ba:Array MapEntry}(g:Good E h w)(gD:m<fI)(hm:h.get m=some (.dD kk es))(hi:E.ι m=some (b,0))(hb:w.heap[b]? =some (.map fQ ef))
  (DH:jO E.φ kk tP Ba.toList clock'):ij E h w E (h.set m (some (.dD kk tP))) { w with heap:=w.heap.setIfInBounds b (.map Ba clock') }:=by
 have fE:b<w.heap.size:=(aQ.1 hb).1;refine ij.write g gD ⟨_,hm,rfl⟩ hi (by simp) rfl rfl rfl (fun x hx=>?_) ⟨rfl,Ba,clock',?_,DH⟩
 . simp[Ne.symm hx]
 . simp[fE]
end
theorem B8{kd:TypeDesc}{a b:V}{a' b':Value}(ra:dz E a a')(rb:dz E b b')(e:x5 kd a b=some true):(Instr.keyThatStays b' a').run P w= .ok a' w:=by
 have:Instr.sameBits 10000 b' a'=true:=by
  unfold x5 at e;split at e
  . simp only[dz]at ra rb;subst ra;subst rb;split at e
    . rename_i hk;simp only[an,beq_iff_eq]at e;simp[Instr.sameBits,hk,e]
    . cases e
  . simp only[dz]at ra rb;subst ra;subst rb;simp only[an]at e;simp only[Instr.sameBits];rw[fT]at e;have hab:_=_:=eq_of_beq e;subst hab;rw[rM,fT];simp
  . cases e
 simp[Instr.keyThatStays,this]
section
variable{eD:Array TypeId}{t ty:TypeId}{m k:V}{m' k':Value}{r:R}
theorem yz{v:V}{m' k' v':Value}{r:R}(g:Good E h w)(rm:dz E m m')(rk:dz E k k')(rv:dz E v v')(e:sK P t h n m k v=some r):
  jX P E h n w (do Instr.mapUpdate t m' k' v';pure .skip) r:=by
 unfold sK at e;split at e
 . rename_i kt et m hu;split at e
   . rename_i kd es ef hk hm;obtain⟨b,fQ,hi,hb,DH⟩:=yw g hm;obtain⟨b',kz,rfl⟩:=rm;rw[hi]at kz;cases kz;have tU:=fa (P:=P) hb (by intro _ _ _ q;cases q);have xe:∀o',(setObj b o').run P w= .ok () { w with heap:=w.heap.setIfInBounds b o' }:=fun o'=>mH (P:=P) hb (by intro _ _ _ q;cases q);split at e
     . rename_i hq;obtain⟨LG,gD⟩:=hq;have HB:=jb (P:=P) (w:=w) (b:=false) hk rk LG;cases hf:uo kd k es 0 with
       |none=>simp[hf]at e
       |some q=>
        have hr:=vM rk es fQ.toList 0 q DH hf;cases q with
        |none=>
         simp only[hf,an]at e;subst e;have JM:=yx (clock':=ef+1) (tP:=es++[(k,v,ef)]) (Ba:=fQ.push { key:=k',val:=v',born:=ef }) g gD hm hi hb (by
          rw[Array.toList_push];exact xb es fQ.toList (k,v,ef) { key:=k',val:=v',born:=ef } DH rk rv rfl)
         refine⟨E,_,undef,.inr ⟨?_,rfl⟩,⟨[],rfl,rfl⟩,JM,fun _ _=>rfl,.inl ⟨rfl,rfl⟩⟩;simp only[Instr.mapUpdate,Sem.run_bind,dj hu,Result.andThen_ok,tU,HB,gx hk hr,xe,Sem.run_pure]
        |some q=>
         obtain⟨j,e0⟩:=q;simp only[hf,an]at e;subst e;obtain⟨e',a1,a2,a3,a4,a5,a6,a7,a8⟩:=hr;simp only[Nat.sub_zero]at a2 a3;have JQ:((fQ[j]?).map (·.key)).getD k'=e'.key:=by rw[<- bK,a3];rfl
         have BW:=B8 (P:=P) (w:=w) rk a5 a4;have JM:=yx (clock':=ef) (tP:=sJ es j fun e=>(k,v,e.2.2)) (Ba:=fQ.modify j fun e=>{ e with key:=k',val:=v' }) g gD hm hi hb (by
          rw[Array.toList_modify];exact pH (f:=fun e=>(k,v,e.2.2)) (f':=fun e=>{ e with key:=k',val:=v' }) (fun x y p q s=>⟨rk,rv,s⟩) es fQ.toList j DH)
         refine⟨E,_,undef,.inr ⟨?_,rfl⟩,⟨[],rfl,rfl⟩,JM,fun _ _=>rfl,.inl ⟨rfl,rfl⟩⟩;simp only[Instr.mapUpdate,Sem.run_bind,dj hu,Result.andThen_ok,tU,HB,gx hk a8,JQ,BW,xe,Sem.run_pure]
     . cases e
   . rename_i kd kk es hk hm;split at e
     . rename_i kq vq JO hvq;split at e
       . rename_i hb;simp only[aC,bB]at hb;obtain⟨hd,Eo,gD⟩:=hb;obtain rfl:=ek e;obtain⟨b,fQ,ef,hi,wq,hr⟩:=uG g hm;obtain⟨b',kz,rfl⟩:=rm;rw[hi]at kz;cases kz;have tU:=fa (P:=P) wq (by intro _ _ _ q;cases q);have xe:∀o',(setObj b o').run P w= .ok () { w with heap:=w.heap.setIfInBounds b o' }:=fun o'=>mH (P:=P) wq (by intro _ _ _ q;cases q);have LG:=B7 JO hd Eo;have HB:=jb (P:=P) (w:=w) (b:=false) hk rk LG;rcases hr.qi hd Eo (vL JO rk) (FD hvq rv).1 with⟨q1,q2⟩|⟨j,e',q1,q2,q3,q4⟩
         . refine⟨E,_,undef,.inr ⟨?_,rfl⟩,⟨[],rfl,rfl⟩,yy g gD hm hi wq q2,fun _ _=>rfl,.inl ⟨rfl,rfl⟩⟩;simp only[Instr.mapUpdate,Sem.run_bind,dj hu,Result.andThen_ok,tU,HB,gx hk q1,xe,Sem.run_pure]
         . have JQ:((fQ[j]?).map (·.key)).getD k'=e'.key:=by rw[q2];rfl
           have BW:(Instr.keyThatStays e'.key k').run P w= .ok k' w:=by
            have r1:=vL JO rk;have:e'.key=k':=by
             cases kq<;>first|(simp only[k8]at q3 r1;rw[q3,r1])|(unfold keyOf at JO;split at JO<;>cases JO)
            rw[this];refine B8 rk rk (kd:=kd) ?_;have aoT:=(jg Eo Eo).2 rfl;unfold keyOf at JO;split at JO<;>first|cases JO|skip
            . cases kd<;>cases kk<;>simp only[mw,gA,aO]at hd Eo;simp[x5]
            . cases kd<;>cases kk<;>simp only[mw,gA,aO]at hd Eo;simp only[x5,fT];simp
           refine⟨E,_,undef,.inr ⟨?_,rfl⟩,⟨[],rfl,rfl⟩,yy g gD hm hi wq q4,fun _ _=>rfl,.inl ⟨rfl,rfl⟩⟩;simp only[Instr.mapUpdate,Sem.run_bind,dj hu,Result.andThen_ok,tU,HB,gx hk q1,JQ,BW,xe,Sem.run_pure]
       . cases e
     . cases e
   . cases e
 . cases e
theorem Ng{args:ag}{c7:List Value}{r:R}(g:Good E h w)(ra:dG E args c7)(ha:eD.size=2)(e:Fz P eD args h n=some r):
  jX P E h n w (do pure (.value (<- Builtin.delete_ eD ty c7.toArray))) r:=by
 unfold Fz at e;split at e
 . rename_i t m k h1;obtain⟨m',_,rm,⟨k',_,rk,qg,rfl⟩,rfl⟩:=ra;simp only[dG]at qg;subst qg;split at e
   . rename_i kt et hu;split at e
     . rename_i kd kk es kq hk hm JO;split at e
       . rename_i hb;simp only[aC,bB]at hb;obtain⟨hd,Eo,gD⟩:=hb;obtain rfl:=ek e;obtain⟨b,fQ,ef,hi,wq,hr⟩:=uG g hm;obtain⟨b',kz,rfl⟩:=rm;rw[hi]at kz;cases kz;have tU:=fa (P:=P) wq (by intro _ _ _ q;cases q);have xe:∀o',(setObj b o').run P w= .ok () { w with heap:=w.heap.setIfInBounds b o' }:=fun o'=>mH (P:=P) wq (by intro _ _ _ q;cases q);have LG:=B7 JO hd Eo;have HB:=jb (P:=P) (w:=w) (b:=fQ.isEmpty) hk rk LG;rcases hr.del hd Eo (vL JO rk)with⟨q1,q2⟩|⟨j,e',q1,q2⟩
         . refine⟨E,_,.tuple #[],.inl ?_,⟨[],rfl,rfl⟩,yy g gD hm hi wq q2,fun _ _=>rfl,.inl ⟨rfl,rfl⟩⟩;simp[Builtin.delete_,h1,dj hu,tU,HB,gx hk q1,xe]
         . refine⟨E,_,.tuple #[],.inl ?_,⟨[],rfl,rfl⟩,yy g gD hm hi wq q2,fun _ _=>rfl,.inl ⟨rfl,rfl⟩⟩;simp[Builtin.delete_,h1,dj hu,tU,HB,gx hk q1,xe]
       . cases e
     . cases e
   . cases e
 . cases e
theorem HC(g:Good E h w)(rm:dz E m m')(rk:dz E k k')(e:zx P t h n m k=some r):
  jX P E h n w (do pure (.value (<- Instr.mapEntry t m' k'))) r:=by
 unfold zx at e;split at e
 . rename_i kt et m hu;split at e
   . rename_i kd es ef z hk hm hz;obtain⟨b,fQ,hi,hb,DH⟩:=yw g hm;obtain⟨b',kz,rfl⟩:=rm;rw[hi]at kz;cases kz;have tU:=fa (P:=P) hb (by intro _ _ _ q;cases q);have xe:∀o',(setObj b o').run P w= .ok () { w with heap:=w.heap.setIfInBounds b o' }:=fun o'=>mH (P:=P) hb (by intro _ _ _ q;cases q);obtain⟨z',OK,M6,_⟩:=lZ (w:=w) E hz;split at e
     . rename_i hq;obtain⟨LG,gD⟩:=hq;have HB:=jb (P:=P) (w:=w) (b:=false) hk rk LG;cases hf:uo kd k es 0 with
       |none=>simp[hf]at e
       |some q=>
        have hr:=vM rk es fQ.toList 0 q DH hf;cases q with
        |none=>
         simp only[hf,an]at e;subst e;have JM:=yx (clock':=ef+1) (tP:=es++[(k,z,ef)]) (Ba:=fQ.push { key:=k',val:=z',born:=ef }) g gD hm hi hb (by
          rw[Array.toList_push];exact xb es fQ.toList (k,z,ef) { key:=k',val:=z',born:=ef } DH rk M6 rfl)
         refine⟨E,_,.tuple #[z',.int .i64 ef],.inl ?_,⟨[z',.int .i64 ef],⟨z',_,M6,⟨.int .i64 ef,[],rfl,rfl,rfl⟩,rfl⟩,rfl⟩,JM,fun _ _=>rfl,.inl ⟨rfl,rfl⟩⟩;simp only[Instr.mapEntry,Sem.run_bind,dj hu,Result.andThen_ok,tU,HB,gx hk hr,OK,xe,Sem.run_pure,goInt]
        |some q=>
         obtain⟨j,e0⟩:=q;simp only[hf,an]at e;subst e;obtain⟨e',a1,a2,a3,a4,a5,a6,a7,a8⟩:=hr;simp only[Nat.sub_zero]at a2 a3;have JQ:((fQ[j]?).map (·.key)).getD k'=e'.key:=by rw[<- bK,a3];rfl
         have LF:(Option.map (fun x=>(x.born:Int)) fQ[j]?).getD 0=(e0.2.2:Int):=by rw[<- bK,a3];exact aN _ a7
         have BW:=B8 (P:=P) (w:=w) rk a5 a4;have JM:=yx (clock':=ef) (tP:=sJ es j fun e=>(k,e.2.1,e.2.2)) (Ba:=fQ.modify j fun e=>{ e with key:=k' }) g gD hm hi hb (by
          rw[Array.toList_modify];exact pH (f:=fun e=>(k,e.2.1,e.2.2)) (f':=fun e=>{ e with key:=k' }) (fun x y p q s=>⟨rk,q,s⟩) es fQ.toList j DH)
         refine⟨E,_,.tuple #[e'.val,.int .i64 e0.2.2],.inl ?_,⟨[e'.val,.int .i64 e0.2.2],⟨e'.val,_,a6,⟨.int .i64 e0.2.2,[],rfl,rfl,rfl⟩,rfl⟩,rfl⟩,JM,fun _ _=>rfl,.inl ⟨rfl,rfl⟩⟩;simp only[Instr.mapEntry,Sem.run_bind,dj hu,Result.andThen_ok,tU,HB,gx hk a8,JQ,LF,BW,xe,Sem.run_pure,goInt]
     . cases e
   . cases e
 . cases e
theorem FP{m o l cO z:Nat}{c7:List Value}(g:Good E h w)(ra:dG E [.di (some (m,o)) l cO z] c7)(hc:0<cO):
  jX P E h n w (do pure (.value (<- Builtin.unsafeSliceData_ eD ty c7.toArray))) (.val (.ptr (some (m,o))) h n):=by
 obtain⟨x',_,⟨b,s,o',fZ,h1,h2,h3,h4,h5,rfl⟩,qg,rfl⟩:=ra;simp only[dG]at qg;subst qg;have:=h2 hc;subst this;refine dM g (v':=.pointer (some ⟨b,s+o,none⟩)) ?_ ⟨b,s,h1,rfl⟩;rw[Sem.run_bind,Lib.run_unsafeSliceData_row w eD ty ⟨b,s+o,none⟩ l fZ be];rfl
theorem Bb{pt e:TypeId}{m:Nat}{l:Int}{As:Bool}{t:aa}{c7:List Value}(g:Good E h w)(ra:dG E [.ptr (some (m,0)),.int .i64 l] c7)(ha0:eD[0]? =some pt)(ha:eD.size=2)(hp:P.underlying pt=some (.pointer e))
  (hm:h.get m=some (.iS e As t)) (hl:l=t.length) (h0:0<t.length) (hce:P.cellsOf e=1) (gD:m<fI) (h63:t.length<=wV):
  jX P E h n w (do pure (.value (<- Builtin.unsafeString_ eD ty c7.toArray))) (.val (.str t) (h.set m (some (.iS e true t))) n):=by
 obtain⟨x',_,⟨b,s,h1,rfl⟩,⟨y',_,r2,qg,rfl⟩,rfl⟩:=ra;simp only[dG]at qg;subst qg;simp only[dz]at r2;subst r2;obtain⟨b',s',mh,c,fz,xs,wq,hs,lP,⟨Bk,JL⟩,B3,l5⟩:=g.rel m _ hm;rw[h1]at mh;cases mh;subst hs;have S4:xs.length=t.length:=by rw[<- B3];simp[eM]
 have oQ:t.length<=c.size:=by
  have h2:=l5 (t.length-1) (xs[t.length-1]'(by omega)) (ay be);have:=(aQ.1 h2).1;omega
 have kH:eD=#[pt,eD[1]'(by omega)]:=by
  apply Array.ext
  . simpa using ha
  . intro i q1 q2;have:i=0\/i=1:=by simp at q2;omega
    rcases this with rfl|rfl
    . rw[bk q1]at ha0;simpa using ha0
    . rfl
 have hlb:∀(l:List Int) (k:Nat) (gl:ByteArray),(∀(j:Nat) (x:Int),l[j]? =some x->c[k+j]? =some (.int .u8 x))->(loadBytes ⟨b,k,none⟩ gl l.length).run P w= .ok ⟨gl.data++(eM l).toArray⟩ w:=by
  intro l
  induction l with
  |nil=>intro k gl _;simp[loadBytes,eM]
  |cons x l ih=>
   intro k gl hh;have e0:=hh 0 x rfl;simp only[aS,loadBytes,Sem.run_bind,run_load,Addr.iU];rw[show(⟨b,k,none⟩:Addr)=⟨b,k+0,none⟩from rfl,mW wq,e0];simp only[Result.andThen_ok];rw[ih (k+0+1) _ (fun j y hy=>by have:=hh (j+1) y (by simpa using hy);rw[<- this];congr 1;omega)];congr 1;simp[eM,ByteArray.push]
 have acB:=hlb xs 0 .empty (fun j x hx=>by rw[bH];exact l5 j x hx);rw[S4,B3]at acB;have Yg:w.shape? b=some (e,c.size):=by simp[World.shape?,wq]
 have acC:=Lib.liesAt_bytes (P:=P) hce (c.size/P.cellsOf e) t.length (by rw[hce];simpa using oQ);have vJ:t.length≠0:=by omega
 have ah9:¬(9223372036854775807:Int)<(t.length:Int):=by unfold wV at h63;omega
 have aia:IntKind.i64.max=9223372036854775807:=rfl;have aib:¬(t.length:Int)<0:=by omega
 have hun:=hp;have fH:(Builtin.unsafeString_ eD ty #[.pointer (some ⟨b,0,none⟩),.int .i64 t.length]).run P w= .ok (.string ⟨t.toArray⟩) (w.freeze ⟨b,0,none⟩ t.length):=by
  rw[kH];have aic:Builtin.unsafeString_ #[pt,eD[1]'(by omega)] ty #[.pointer (some ⟨b,0,none⟩),.int .i64 t.length]=
   (do
    let n <- asInt (.int .i64 t.length)
    if n<0 then runtimePanic (.error "unsafe.String: len out of range")
    if n>IntKind.i64.max then unsupported (.unsafePointer "String: a length above the largest int")
    if n=0 then pure (.string .empty)
    else if <- variablesAt ⟨b,0,none⟩ (<- elemOf pt) n.toNat then do
     let s <- loadBytes ⟨b,0,none⟩ .empty n.toNat
     freeze ⟨b,0,none⟩ n.toNat
     pure (.string s)
    else unsupported (.unsafePointer "String: not so many bytes at ptr")):=rfl
  rw[aic];simp[asInt,asIntOf,aia,ah9,aib,vJ,variablesAt,Yg,elemOf,dj hp,acC,acB]
  done
 have h00:(0:Nat)+0=0:=rfl;refine⟨E,w.freeze ⟨b,0,none⟩ t.length,.string ⟨t.toArray⟩,.inl ?_,rfl,?_,fun _ _=>rfl,.inl ⟨rfl,rfl⟩⟩
 . rw[Sem.run_bind,h00,hl];rw[fH];rfl
 . have FG:ew h m:=⟨_,hm,rfl⟩;have hbs:b<w.heap.size:=(aQ.1 wq).1;refine ij.write g gD FG h1 (by unfold World.freeze;rw[aI vJ];simp) (by unfold World.freeze;rw[aI vJ]) (by unfold World.freeze;rw[aI vJ]) (by unfold World.freeze;rw[aI vJ]) (fun x hx=>by unfold World.freeze;rw[aI vJ];simp only[cm];rw[aI (Ne.symm hx)]) ?_;refine⟨c,(if fz.1==fz.2 then(0,0+t.length)else(min fz.1 0,max fz.2 (0+t.length))),xs,by unfold World.freeze;rw[aI vJ];simp[cm,wq],rfl,lP,⟨.inr ?_,fun q=>by simp at q⟩,B3,l5⟩;split
   . simp
   . rename_i q;have:¬fz.1=fz.2:=by simpa using q
     simp only[bH];omega
end
theorem B9{b:Int}:∀(xs:List (V×V×Nat)) (ys:List MapEntry) (i j:Nat),kC E xs ys->zy b xs i=some j->i<=j/\ys.findIdx? (fun e=>(e.born:Int)==b)=some (j-i)
 | [],_,i,j,r,e=>by simp[zy]at e
 |x::xs,_,i,j,r,e=>by
  obtain⟨y,ys,_,_,c,rs,rfl⟩:=r;simp only[zy]at e;split at e
  . rename_i hb;obtain rfl:=ek e;refine⟨aA _,?_⟩;rw[List.findIdx?_cons,aG (by rw[c];exact hb)];simp
  . rename_i hb;obtain⟨h1,h2⟩:=B9 xs ys (i+1) j rs e;refine⟨be,?_⟩;rw[List.findIdx?_cons,aI (by rw[c];exact hb),h2];simp;omega
section
variable{t:TypeId}{h':Tr O}{x:V}{n':Nat}{x':Value}{r:R}
theorem DV{m s v:V}{m' s' v':Value}{r:R}(g:Good E h w)(rm:dz E m m')(rs:dz E s s')(rv:dz E v v')(e:uq h n m s v=some r):
  jX P E h n w (do Instr.entryStore t m' s' v';pure .skip) r:=by
 unfold uq at e;split at e
 . rename_i m k b0;simp only[dz]at rs;subst rs;split at e
   . rename_i es ef hm;obtain⟨b,fQ,hi,hb,DH⟩:=yw g hm;obtain⟨b',kz,rfl⟩:=rm;rw[hi]at kz;cases kz;have tU:=fa (P:=P) hb (by intro _ _ _ q;cases q);have xe:∀o',(setObj b o').run P w= .ok () { w with heap:=w.heap.setIfInBounds b o' }:=fun o'=>mH (P:=P) hb (by intro _ _ _ q;cases q);split at e
     . rename_i gD;cases hf:zy b0 es 0 with
       |none=>simp[hf]at e
       |some j=>
        simp only[hf,an]at e;subst e;obtain⟨_,h2⟩:=B9 es fQ.toList 0 j DH hf;have h3:fQ.findIdx? (fun e=>(e.born:Int)==b0)=some j:=by
         have q:=List.findIdx?_toArray (fun(e:MapEntry)=>(e.born:Int)==b0) fQ.toList;rw[Array.toArray_toList]at q;rw[q];simpa using h2
        have JM:=yx (clock':=ef) (tP:=sJ es j fun e=>(e.1,v,e.2.2)) (Ba:=fQ.modify j fun e=>{ e with val:=v' }) g gD hm hi hb (by
         rw[Array.toList_modify];exact pH (f:=fun e=>(e.1,v,e.2.2)) (f':=fun e=>{ e with val:=v' }) (fun x y p q s=>⟨p,rv,s⟩) es fQ.toList j DH)
        refine⟨E,_,undef,.inr ⟨?_,rfl⟩,⟨[],rfl,rfl⟩,JM,fun _ _=>rfl,.inl ⟨rfl,rfl⟩⟩;simp only[Instr.entryStore,Sem.run_bind,tU,Result.andThen_ok,asInt,asIntOf,Sem.run_pure,h3,xe]
     . cases e
   . cases e
 . cases e
theorem AA{s:Sem Next}{o:O}{ob:Obj}{v:V}{v':Value}(g:Good E h w)(hn:E.ι n=none)(e:newObj h n o=some (h',n'))
  (ho:∀E1 w1,w1.heap[w.heap.size]? =some ob->lO E1 w1 w.heap.size 0 o) (hr:s.run P w= .ok (.value v') (w.alloc ob)) (hv:dz (E.put n w.heap.size 0 (jP ob)) v v'):jX P E h n w s (.val v h' n'):=by
 obtain⟨gD,rfl,rfl⟩:=kG e;exact⟨_,_,v',.inl hr,hv,ij.alloc g hn gD (ho _ _ heap_alloc_new),fun m hm=>Env.fk hm,.inr rfl⟩
theorem JR(g:Good E h w)(hn:E.ι n=none)(e:newObj h n (.map [] 0)=some (h',n')):
  jX P E h n w (do pure (.value (<- Instr.makeMap t none))) (.val (.map (some n)) h' n'):=by
 refine AA (ob:=.map #[] 0) (v':=.map (some w.heap.size)) g hn e (fun E1 w1 q=>⟨rfl,#[],q,by simp[kC]⟩) ?_ ⟨w.heap.size,Env.eV,rfl⟩;simp[Instr.makeMap]
theorem Ps(g:Good E h w)(hn:E.ι n=none)(rx:dz E x x')(e:BN P t x h n=some r):
  jX P E h n w (do pure (.value (<- Instr.range t x'))) r:=by
 unfold BN at e;split at e
 . rename_i s hu;simp only[dz]at rx;subst rx;cases ho:newObj h n (.nA s 0)with
   |none=>simp[ho]at e
   |some p=>
    obtain⟨h',n'⟩:=p;simp only[ho,an]at e;subst e;refine AA (ob:=.stringIter ⟨s.toArray⟩ 0) (v':=.pointer (some ⟨w.heap.size,0,none⟩)) g hn ho (fun E1 w1 q=>⟨rfl,q⟩) ?_ ⟨w.heap.size,0,Env.eV,by simp⟩;simp[Instr.range,dj hu]
 . cases e
theorem TB{b:Bool}{t:TypeId}{x':Value}{r:R}(g:Good E h w)(rx:dz E x x')(e:OY x b h n=some r):
  jX P E h n w (do pure (.value (<- Instr.next x' b t))) r:=by
 unfold OY at e;split at e
 . rename_i m;obtain⟨b0,s0,hi,rfl⟩:=rx;split at e
   . rename_i s pos hm;obtain⟨b1,s1,Yo,fP,hb⟩:=g.rel m _ hm;rw[hi]at Yo;cases Yo;subst fP;have tU:=fa (P:=P) hb (by intro _ _ _ q;cases q);have xe:∀o',(setObj b0 o').run P w= .ok () { w with heap:=w.heap.setIfInBounds b0 o' }:=fun o'=>mH (P:=P) hb (by intro _ _ _ q;cases q);have fE:b0<w.heap.size:=(aQ.1 hb).1;have lP:(⟨s.toArray⟩:ByteArray).size=s.length:=by show s.toArray.size=_;simp
     split at e
     . rename_i hp;simp only at e;split at e
       . rename_i gD;obtain rfl:=ek e;have JM:ij E h w E (h.set m (some (.nA s (pos+(Utf8.decode ⟨s.toArray⟩ pos).2)))) { w with heap:=w.heap.setIfInBounds b0 (.stringIter ⟨s.toArray⟩ (pos+(Utf8.decode ⟨s.toArray⟩ pos).2)) }:=by
          refine ij.write g gD ⟨_,hm,rfl⟩ hi (by simp) rfl rfl rfl (fun x hx=>?_) ⟨rfl,?_⟩
          . simp[Ne.symm hx]
          . simp[fE]
         refine⟨E,_,.tuple #[.bool true,.int .i64 pos,.int .i32 (Utf8.decode ⟨s.toArray⟩ pos).1],.inl ?_,⟨[.bool true,.int .i64 pos,.int .i32 (Utf8.decode ⟨s.toArray⟩ pos).1],⟨_,_,rfl,⟨_,_,rfl,⟨_,_,rfl,rfl,rfl⟩,rfl⟩,rfl⟩,rfl⟩,JM,fun _ _=>rfl,.inl ⟨rfl,rfl⟩⟩;simp[Instr.next,tU,lP,hp,xe,goInt]
       . cases e
     . rename_i hp;obtain rfl:=ek e;refine dM g (v':=.tuple #[.bool false]) ?_ ⟨[.bool false],⟨_,_,rfl,rfl,rfl⟩,rfl⟩;simp[Instr.next,tU,lP,hp]
   . cases e
 . cases e
end
end
section
variable{P:Program}{E:Env}{h:Tr O}{n:Nat}{w:World}{fr:Tr V}{ρ:Operand->Value}
def mB(E:Env)(fr:Tr V)(ρ:Operand->Value)(x:Operand):Prop:=∀v,iG fr x=some v->dz E v (ρ x)
theorem uH:∀(xs:List Operand) (vs:ag),(∀x∈xs,mB E fr ρ x)->ux fr xs=some vs->dG E vs (xs.map ρ)
 | [],vs,_,e=>by simp only[ux,an]at e;subst e;rfl
 |x::xs,vs,hr,e=>by
  simp only[ux]at e;cases h1:iG fr x with
  |none=>simp[h1]at e
  |some v=>cases h2:ux fr xs with
   |none=>simp[h1,h2]at e
   |some r=>
    simp only[h1,h2,an]at e;subst e;exact⟨ρ x,xs.map ρ,hr x (by simp) v h1,uH xs r (fun y hy=>hr y (by simp[hy])) h2,rfl⟩
theorem s7:∀(xs:List (Nat×Operand)) (vs:List (Nat×V)),(∀x∈xs.map (·.2),mB E fr ρ x)->qb fr xs=some vs->Ax E vs (xs.map fun x=>(x.1,ρ x.2))
 | [],vs,_,e=>by simp only[qb,an]at e;subst e;rfl
 |(i,x)::xs,vs,hr,e=>by
  simp only[qb]at e;cases h1:iG fr x with
  |none=>simp[h1]at e
  |some v=>cases h2:qb fr xs with
   |none=>simp[h1,h2]at e
   |some r=>
    simp only[h1,h2,an]at e;subst e;exact⟨(i,ρ x),_,rfl,hr x (by simp) v h1,s7 xs r (fun y hy=>hr y (by simp at hy ⊢;exact .inr hy)) h2,rfl⟩
theorem xg{x:Option Operand}{v:Option V}(hr:∀y,x=some y->mB E fr ρ y)(e:my fr x=some v):nV E v (x.map ρ):=by
 cases x with
 |none=>simp only[my,an]at e;subst e;rfl
 |some x=>
  simp only[my]at e;cases h1:iG fr x with
  |none=>simp[h1]at e
  |some y=>simp only[h1,an]at e;subst e;exact⟨ρ x,hr x rfl y h1,rfl⟩
theorem fN{v:Option V}{r:R}(e:mM h n v=some r):∃x,v=some x/\r= .val x h n:=by
 cases v with
 |none=>simp[mM]at e
 |some x=>simp only[mM,an]at e;exact⟨x,rfl,e.symm⟩
theorem pI{f:FuncId}{args:Array Value}(hc:callee P f=true):(callFunc f args).run P w= .ok (.enter f args) w:=by
 unfold callee at hc;split at hc
 . rename_i fn hf;simp only[aC,bne_iff_ne,ne_eq]at hc;obtain⟨h1,h2⟩:=hc;have h3:fn.body.isNone=false:=by cases hb:fn.body<;>simp_all
   have h4:(fn.name == "runtime.NumGoroutine")=false:=by simpa using h2
   simp only[callFunc,Sem.run_bind,run_program,Result.andThen_ok,hf,h4,h3,aO,cF];rfl
 . cases hc
theorem JS{c:Call}{ty:TypeId}{r:R}(g:Good E h w)(hn:E.ι n=none)(hr:∀x∈c.operands,mB E fr ρ x)(e:wD P fr c h n=some r):
  jX P E h n w (do let d <- resolve ρ c ty;invoke d.target d.args) r:=by
 unfold wD at e;split at e
 . rename_i args ha;have nD:=uH (E:=E) (ρ:=ρ) c.args.toList args (fun x hx=>hr x (by simp[Call.operands];exact .inr (by simpa using hx))) ha;have FQ:c.args.map ρ=(c.args.toList.map ρ).toArray:=by apply Array.ext';simp
   split at e
   . rename_i b hc;unfold kY at e;split at e
     . split at e
       . rename_i h2;have:=Na (P:=P) (ty:=ty) g hn nD e h2;simpa[resolve,hc,invoke,builtin,FQ]using this
       . cases e
     . obtain⟨v,h1,rfl⟩:=fN e;have:=Yl (P:=P) (n:=n) (ty:=ty) g nD h1;simpa[resolve,hc,invoke,builtin,FQ]using this
     . split at e
       . obtain⟨v,h1,rfl⟩:=fN e;have:=Ym (P:=P) (n:=n) (eD:=c.argTypes) (ty:=ty) g nD h1;simpa[resolve,hc,invoke,builtin,FQ]using this
       . cases e
     . split at e
       . obtain⟨v,h1,rfl⟩:=fN e;have:=Yn (P:=P) (n:=n) (eD:=c.argTypes) (ty:=ty) g nD h1;simpa[resolve,hc,invoke,builtin,FQ]using this
       . cases e
     . split at e
       . rename_i t v;obtain rfl:=ek e;obtain⟨x',_,⟨y,ry,rfl⟩,qg,hl⟩:=nD;simp only[dG]at qg;subst qg;have h0:(c.args.map ρ).getD 0 .nilIface= .iface t y:=by rw[FQ,hl];rfl
         refine⟨.iface t y,?_,y,ry,rfl⟩;simp only[resolve,hc,pure_bind,invoke,builtin];rw[h0];rfl
       . cases e
     . obtain rfl:=ek e;show _=_;simp[resolve,hc,invoke,builtin]
     . split at e
       . split at e
         . rename_i sW;obtain rfl:=ek e;have:=FP (P:=P) (n:=n) (eD:=c.argTypes) (ty:=ty) g nD sW;simpa[resolve,hc,invoke,builtin,FQ]using this
         . cases e
       . cases e
     . split at e
       . rename_i pt m l ha0;split at e
         . rename_i e0 el As s hp hm;split at e
           . rename_i hq;obtain⟨⟨q1,q2⟩,⟨rfl,q3⟩,q4,q5,q6⟩:=hq;obtain rfl:=ek e;have:=Bb (P:=P) (n:=n) (eD:=c.argTypes) (ty:=ty) g nD ha0 q5 hp hm q1 q2 q3 q4 q6;simpa[resolve,hc,invoke,builtin,FQ]using this
           . cases e
         . cases e
       . cases e
     . split at e
       . rename_i h2;have:=Ng (P:=P) (ty:=ty) g nD h2 e;simpa[resolve,hc,invoke,builtin,FQ]using this
       . cases e
     . cases e
   . cases e
   . rename_i f hc;split at e
     . rename_i gf first captured hf
       split at e
       . rename_i uJ;obtain rfl:=ek e;obtain⟨f',fi,ca,Nh,r1,r2,hfe⟩:=hr f (by simp[Call.operands,hc]) _ hf;simp only[x8]at Nh;subst Nh;refine⟨fi++c.args.toList.map ρ++ca,ir (ir r1 nD) r2,.inl ⟨?_,uJ⟩⟩;have oz:=pI (w:=w) (args:=(fi++c.args.toList.map ρ++ca).toArray) uJ;simp only[resolve,hc,hfe,Deferred.ofValue,pure_bind,invoke];rw[<- oz];congr 2;apply Array.ext';simp
       . cases e
     . rename_i m hf;obtain⟨f',fi,ca,⟨l,s,iV,Nh⟩,r1,r2,hfe⟩:=hr f (by simp[Call.operands,hc]) _ hf;subst Nh;simp only[dG]at r1 r2;subst r1;subst r2;split at e
       . split at e
         . obtain rfl:=ek e;refine⟨c.args.toList.map ρ,nD,.inr ⟨m,l,s,rfl,iV,?_⟩⟩;simp only[resolve,hc,hfe,Deferred.ofValue,pure_bind,invoke,FQ];simp
         . cases e
       . cases e
     . cases e
 . cases e
theorem HD{c:Call}{ty:TypeId}{r:R}(hr:∀x∈c.operands,mB E fr ρ x)(e:BO fr c=some r):
  jX P E h n w (do pure (.defer (<- resolve ρ c ty))) r:=by
 unfold BO at e;split at e
 . rename_i args ha;have nD:=uH (E:=E) (ρ:=ρ) c.args.toList args (fun x hx=>hr x (by simp[Call.operands];exact .inr (by simpa using hx))) ha;split at e
   . rename_i f hc;split at e
     . rename_i gf first captured hf
       obtain rfl:=ek e;obtain⟨f',fi,ca,Nh,r1,r2,hfe⟩:=hr f (by simp[Call.operands,hc]) _ hf;simp only[x8]at Nh;subst Nh;refine⟨ca,fi++c.args.toList.map ρ,?_,r2,ir r1 nD⟩;simp only[resolve,hc,hfe,Deferred.ofValue,pure_bind];show Result.ok _ w=_;congr 3;apply Array.ext';simp
     . cases e
   . cases e
 . cases e
set_option maxHeartbeats 1000000 in
theorem mC{o:Oper}{r:R}(g:Good E h w)(hn:E.ι n=none)(hr:∀x∈o.op.operands,mB E fr ρ x)(e:dy P o fr h n=some r):jX P E h n w (execOp ρ o) r:=by
 obtain⟨dst,op,ty,pos,after,guard⟩:=o;simp only at hr;cases op<;>simp only[dy]at e<;>simp only[Op.operands]at hr<;>simp only[execOp]
 case move x=>
  obtain⟨v,h1,rfl⟩:=fN e;exact dM g rfl (hr x (by simp) v h1)
 case assign x=>
  obtain⟨v,h1,rfl⟩:=fN e;exact dM g rfl (hr x (by simp) v h1)
 case pick c x y=>
  split at e
  . rename_i hc;obtain⟨v,h1,rfl⟩:=fN e;have rc:=hr c (by simp) _ hc;simp only[dz]at rc;exact dM g (by simp[rc,asBool]) (hr x (by simp) v h1)
  . rename_i hc;obtain⟨v,h1,rfl⟩:=fN e;have rc:=hr c (by simp) _ hc;simp only[dz]at rc;exact dM g (by simp[rc,asBool]) (hr y (by simp) v h1)
  . cases e
 case alloc t=>
  split at e
  . rename_i z hz;split at e
    . rename_i h' n' ho;obtain rfl:=ek e;exact Pa g hn hz ho
    . cases e
  . cases e
 case box t x=>
  split at e
  . rename_i v hv;split at e
    . rename_i h' n' ho;obtain rfl:=ek e;exact Yb g hn (hr x (by simp) v hv) ho
    . cases e
  . cases e
 case build t parts=>
  split at e
  . rename_i ps G1;obtain⟨v,h1,rfl⟩:=fN e;have hp:=s7 (E:=E) (ρ:=ρ) parts.toList ps (fun x hx=>hr x (by simpa using hx)) G1;have hq:Ax E ps (parts.map fun(i,x)=>(i,ρ x)).toList:=by simpa using hp
    obtain⟨v',q1,q2⟩:=M4 (P:=P) (w:=w) hq h1;refine dM g (v':=v') ?_ q2;simp only[Sem.run_bind,q1,Result.andThen_ok,Sem.run_pure]
  . cases e
 case buildSlice t cN parts=>
  split at e
  . rename_i ps G1;have hp:=s7 (E:=E) (ρ:=ρ) parts.toList ps (fun x hx=>hr x (by simpa using hx)) G1;have hq:Ax E ps (parts.map fun(i,x)=>(i,ρ x)).toList:=by simpa using hp
    have:=DP (P:=P) (w:=w) (t:=t) (cN:=cN) g hn hq e;exact this
  . cases e
 case load t x=>
  split at e
  . rename_i v hv;obtain⟨u,h1,rfl⟩:=fN e;exact To g (hr x (by simp) v hv) h1
  . cases e
 case store t x y=>
  split at e
  . rename_i a v ha hv;split at e
    . rename_i h' hs;obtain rfl:=ek e;exact Pc g (hr x (by simp) a ha) (hr y (by simp) v hv) hs
    . cases e
  . cases e
 case nilCheck x=>
  split at e
  . rename_i p hv;obtain rfl:=ek e;have hx:=hr x (by simp) _ hv;obtain⟨b,s,q1,q2⟩:=hx;rw[q2];exact dM g (v':=.pointer (some ⟨b,s+p.2,none⟩)) rfl ⟨b,s,q1,rfl⟩
  . rename_i cs hv;obtain rfl:=ek e;have hx:=hr x (by simp) _ hv;obtain⟨b,o,c,vs,q1,q2⟩:=hx;rw[q1];exact dM g (v':=.pointer (some ⟨b,o,none⟩)) rfl ⟨b,o,c,vs,rfl,q2⟩
  . rename_i f a c hv;obtain rfl:=ek e;have hx:=hr x (by simp) _ hv;obtain⟨f',a',c',q0,q1,q2,q3⟩:=hx;simp only[x8]at q0;subst q0;rw[q3];exact dM g (v':=.func (.func f) a'.toArray c'.toArray) rfl ⟨_,a',c',rfl,q1,q2,rfl⟩
  . rename_i t v hv;obtain rfl:=ek e;have hx:=hr x (by simp) _ hv;obtain⟨y,q1,q2⟩:=hx;rw[q2];exact dM g (v':=.iface t y) rfl ⟨y,q1,rfl⟩
  . cases e
 case binOp op t x y yt=>
  split at e
  . rename_i a b ha hb;obtain⟨u,h1,rfl⟩:=fN e;exact Pf g (hr x (by simp) a ha) (hr y (by simp) b hb) h1
  . cases e
 case unOp op t x=>
  split at e
  . rename_i v hv;obtain⟨u,h1,rfl⟩:=fN e;exact Ts g (hr x (by simp) v hv) h1
  . cases e
 case convert s d x=>
  split at e
  . rename_i v hv;exact JK g hn (hr x (by simp) v hv) e
  . cases e
 case makeInterface t x=>
  split at e
  . rename_i v d hv hu;split at e
    . cases e
    . rename_i hd;obtain rfl:=ek e;have hx:=hr x (by simp) v hv;refine dM g (v':=.iface t (ρ x)) ?_ ⟨ρ x,hx,rfl⟩;simp only[Instr.makeInterface,Sem.run_bind,dj hu,Result.andThen_ok];cases d<;>first|(exact absurd rfl (hd _))|rfl
  . cases e
 case makeFunc f first captured=>
  split at e
  . rename_i a c ha hc;split at e
    case isFalse=>cases e
    rename_i hny;obtain rfl:=ek e;have S6:x8 E f f:=by cases f<;>first|rfl|cases hny
    have r1:=uH (E:=E) (ρ:=ρ) first.toList a (fun x hx=>hr x (by simp at hx ⊢;exact .inl hx)) ha
    have r2:=uH (E:=E) (ρ:=ρ) captured.toList c (fun x hx=>hr x (by simp at hx ⊢;exact .inr hx)) hc;refine dM g (v':=.func f (first.map ρ) (captured.map ρ)) rfl ⟨f,first.toList.map ρ,captured.toList.map ρ,S6,r1,r2,?_⟩;congr 1<;>(apply Array.ext';simp)
  . cases e
 case makeMap t Pt=>
  cases Pt with
  |some _=>simp at e
  |none=>
   simp only at e;split at e
   . rename_i h' n' ho;obtain rfl:=ek e;exact JR g hn ho
   . cases e
 case makeSlice t l c=>
  split at e
  . rename_i lv cv hl hc;exact FN g hn (hr l (by simp) lv hl) (hr c (by simp) cv hc) e
  . cases e
 case slice t x lo hi mx=>
  split at e
  . rename_i v lov hiv mxv hv yp LH hmx;obtain⟨u,h1,rfl⟩:=fN e;refine Pk g (hr x (by simp) v hv) (xg (fun y hy=>hr y ?_) yp) (xg (fun y hy=>hr y ?_) LH) (xg (fun y hy=>hr y ?_) hmx) h1
    . subst hy;simp
    . subst hy;simp
    . subst hy;simp
  . cases e
 case fieldAddr t x f=>
  split at e
  . rename_i v hv;obtain⟨u,h1,rfl⟩:=fN e;exact FK g (hr x (by simp) v hv) h1
  . cases e
 case field t x f=>
  split at e
  . rename_i v hv;obtain⟨u,h1,rfl⟩:=fN e;exact Ph g (hr x (by simp) v hv) h1
  . cases e
 case indexAddr t x i=>
  split at e
  . rename_i v iv hv hi;obtain⟨u,h1,rfl⟩:=fN e;exact FL g (hr x (by simp) v hv) (hr i (by simp) iv hi) h1
  . cases e
 case index t x i=>
  split at e
  . rename_i v iv hv hi;obtain⟨u,h1,rfl⟩:=fN e;exact Pj g (hr x (by simp) v hv) (hr i (by simp) iv hi) h1
  . cases e
 case lookup t x k ok=>
  split at e
  . rename_i v kv hv hk;obtain⟨u,h1,rfl⟩:=fN e;exact Nf g (hr x (by simp) v hv) (hr k (by simp) kv hk) h1
  . cases e
 case mapUpdate t m k v=>
  split at e
  . rename_i mv kv vv hm hk hv;exact yz g (hr m (by simp) mv hm) (hr k (by simp) kv hk) (hr v (by simp) vv hv) e
  . cases e
 case insert t m k v=>
  split at e
  . rename_i mv kv vv hm hk hv;exact yz g (hr m (by simp) mv hm) (hr k (by simp) kv hk) (hr v (by simp) vv hv) e
  . cases e
 case mapEntry t m k=>
  split at e
  . rename_i mv kv hm hk;exact HC g (hr m (by simp) mv hm) (hr k (by simp) kv hk) e
  . cases e
 case entryStore t m s v=>
  split at e
  . rename_i mv sv vv hm hs hv;exact DV g (hr m (by simp) mv hm) (hr s (by simp) sv hs) (hr v (by simp) vv hv) e
  . cases e
 case range t x=>
  split at e
  . rename_i v hv;exact Ps g hn (hr x (by simp) v hv) e
  . cases e
 case next it b=>
  split at e
  . rename_i v hv;exact TB g (hr it (by simp) v hv) e
  . cases e
 case typeAssert x xt t ok=>
  split at e
  . rename_i v hv;obtain⟨u,h1,rfl⟩:=fN e;exact DR g (hr x (by simp) v hv) h1
  . cases e
 case extract x i=>
  split at e
  . rename_i vs hv;obtain⟨u,h1,rfl⟩:=fN e;exact JI g (hr x (by simp) _ hv) h1
  . cases e
 case panic x=>
  split at e
  . rename_i t v hv;obtain rfl:=ek e;obtain⟨y,q1,q2⟩:=hr x (by simp) _ hv;refine⟨.iface t y,?_,y,q1,rfl⟩;rw[q2];simp[Instr.panic]
  . cases e
 case call c=>exact JS g hn hr e
 case defer c=>exact HD hr e
 all_goals (cases e)
end
def yA(E:Env)(fr:Tr V)(a:Act):Prop:=∀t v,fr.get t=some v->∃v',a.tmps[t]? =some v'/\dz E v v'
theorem jQ{E E':Env}(h:E.le E'){fr:Tr V}{a:Act}(r:yA E fr a):yA E' fr a:=fun t v e=>let⟨v',h1,h2⟩:=r t v e;⟨v',h1,je h v v' h2⟩
section
variable(a:Act){E:Env}(dst:Option Tmp){fr:Tr V}
theorem iB(v:Value):(a.put dst v).tmps.size=a.tmps.size:=by cases dst<;>simp[Act.put]
theorem gw(v:Value):(a.put dst v).defers=a.defers:=by cases dst<;>rfl
def nc(N:Nat)(dst:Option Tmp):Prop:=∀d,dst=some d->d<N
theorem ju{fr':Tr V}{a:Act}{dst:Option Tmp}{v:V}{v':Value}(r:yA E fr a)(e:iT fr dst v=some fr')(hv:dz E v v')(hd:nc a.tmps.size dst):yA E fr' (a.put dst v'):=by
 cases dst with
 |none=>simp only[iT,an]at e;subst e;exact r
 |some d=>
  simp only[iT]at e;split at e
  . rename_i ht;obtain rfl:=ek e;intro t x hx;rw[Tr.eO _ _ _ ht]at hx;have fE:=hd d rfl;by_cases q:t=d
    . subst q;rw[aG rfl]at hx;cases hx;exact⟨v',by simp[Act.put,fE],hv⟩
    . rw[aI q]at hx;obtain⟨y,h1,h2⟩:=r t x hx;exact⟨y,by simp[Act.put,Ne.symm q,h1],h2⟩
  . cases e
theorem iC{a:Act}(ge:GE E)(r:yA E fr a)(x:Operand):mB E fr a.eval x:=by
 intro v e;cases x with
 |tmp t=>obtain⟨v',h1,h2⟩:=r t v e;simp only[Act.eval,b7,h1];exact h2
 |const c=>exact zD e
 |func f=>simp only[iG,an]at e;subst e;exact⟨_,[],[],rfl,rfl,rfl,rfl⟩
 |global g=>exact Hf ge e
end
theorem xh{E:Env}{ops:Array Oper}{o:Oper}{fr:Tr V}{a:Act}{b:Bool}(r:∀j Jw q d,o.guard=some (j,Jw)->ops[j]? =some q->q.dst=some d->∀v,fr.get d=some v->∃v',a.tmps[d]? =some v'/\dz E v v')(e:iq ops o fr=some b):
  Region.wanted o (yielded ops a.tmps)=b:=by
 unfold iq at e;unfold Region.wanted;cases hg:o.guard with
 |none=>simp only[hg,an]at e ⊢;exact e
 |some p=>
  obtain⟨j,Jw⟩:=p;simp only[hg]at e ⊢;cases hj:ops[j]? with
  |none=>simp[hj]at e
  |some q=>
   simp only[hj]at e;cases hd:q.dst with
   |none=>simp[hd]at e
   |some d=>
    simp only[hd]at e;cases hf:fr.get d with
    |none=>simp[hf]at e
    |some v=>
     obtain⟨v',h1,h2⟩:=r j Jw q d hg hj hd v hf;have hy:yielded ops a.tmps j=(match(some v':Option Value)with|some (.bool b)=>some b|_=>none):=by
      unfold yielded;rw[hj];simp only[Option.bind_some,hd,h1];cases v'<;>rfl
     cases v with
     |bool b0=>
      simp only[hf,an]at e;simp only[dz]at h2;subst h2;rw[hy,<- e];cases b0<;>cases Jw<;>rfl
     |eo vs=>
      cases vs with
      |nil=>
       simp only[hf,an]at e;obtain⟨l,hl,rfl⟩:=h2;rw[hy,<- e];rfl
      |cons _ _=>simp[hf]at e
     |_=>simp[hf]at e
def qH(E:Env)(n:Nat):Prop:=∀m,n<=m->E.ι m=none
def s8(E:Env):O1->Ending->Prop
 | .ret v,.returned v'=>dz E v v'
 | .zz v,.panicked chain=>∃v',dz E v v'/\chain=[{ v:=v',recovered:=false }]
 |_,_=>False
def fz(R:Option Nat):Fence:={ Fence.wide with round:=R }
def jR(E:Env)(h:Tr O)(n:Nat)(w:World)(tQ:O1)(h':Tr O)(n':Nat)(e:Ending)(w':World):Prop:=
 ∃E',ij E h w E' h' w'/\(∀m,m<n->E'.ι m=E.ι m)/\qH E' n'/\n<=n'/\s8 E' tQ e
def jc(P:Program)(cf:fJ):Prop:=∀f args h n tQ h' n',cf f args h n=some (tQ,h',n')->∀E w c7,dG E args c7->Good E h w->qH E n->
 (callee P f=true->Calls P f c7.toArray w (jR E h n w tQ h' n'))/\
 (∀m l s,f=P.funcs.size+m->E.ι m=some (l,s)->YieldAt Fence.wide 0 P l c7.toArray w (jR E h n w tQ h' n'))
theorem k9{R:Option Nat}{ρ:Operand->Value}{o:Oper}(h:∀c,o.op≠ .defer c):Oper.semAt R ρ o=execOp ρ o:=by
 cases R with
 |none=>exact Oper.semAt_none ..
 |some l=>exact Oper.semAt_some l ρ o h
theorem JT{fr:Tr V}{c:Call}{r:R}(e:BO fr c=some r):∃f a b,r= .me f a b:=by
 unfold BO at e;split at e
 . split at e
   . split at e
     . simp only[an]at e;exact⟨_,_,_,e.symm⟩
     . cases e
   . cases e
 . cases e
section
variable{P:Program}{E:Env}{h h':Tr O}{n n':Nat}{w:World}{fr:Tr V}{a:Act}{o:Oper}{K:Act->World->Prop}{Q:Exit->Act->World->Prop}{uK:Option Nat}
theorem vN{r:R}(e:dy P o fr h n=some r)(hr:∀f a b,r≠ .me f a b):∀c,o.op≠ .defer c:=by
 intro c hc;simp only[dy,hc]at e;obtain⟨f,x,y,q⟩:=JT e;exact hr f x y q
theorem Ca{v:V}(g:Good E h w)(hn:E.ι n=none)(hr:∀x∈o.op.operands,mB E fr a.eval x)(e:dy P o fr h n=some (.val v h' n'))
  (hk:∀E' w' v',dz E' v v'->ij E h w E' h' w'->(∀m,m≠n->E'.ι m=E.ι m)->((n'=n/\E'=E)\/n'=n+1)->K (a.put o.dst v') w'):o.wpIn (fz uK) 0 P a w K Q:=by
 obtain⟨E',w',v',fH,h1,h2,h3,h4⟩:=mC g hn hr e;refine⟨fun _ _=>trivial,?_⟩;rw[k9 (vN e fun _ _ _=>by simp)];rcases fH with fH|⟨fH,rfl⟩
 . rw[fH,Oper.uponIn_value];exact hk E' w' v' h1 h2 h3 h4
 . rw[fH,Oper.uponIn_skip];exact hk E' w' undef h1 h2 h3 h4
theorem Bl{cf:fJ}{f:FuncId}{args:ag}{tQ:O1}(oz:jc P cf)(g:Good E h w)(hn:qH E n)(hr:∀x∈o.op.operands,mB E fr a.eval x)
  (e:dy P o fr h n=some (.call f args)) (ec:cf f args h n=some (tQ,h',n'))
  (hk:∀E' w',ij E h w E' h' w'->(∀m,m<n->E'.ι m=E.ι m)->qH E' n'->n<=n'->
   match tQ with
   | .ret v=>∀v',dz E' v v'->K (a.put o.dst v') w'
   | .zz v=>∀v',dz E' v v'->Q (.panic [{ v:=v',recovered:=false }]) a w'):o.wpIn (fz uK) 0 P a w K Q:=by
 obtain⟨c7,h1,fH⟩:=mC g (hn n (aA _)) hr e;refine⟨fun _ _=>trivial,?_⟩;rw[k9 (vN e fun _ _ _=>by simp)];have Ep:∀en w',jR E h n w tQ h' n' en w'->(match en,w' with
  | .returned v,w''=>K (a.put o.dst v) w''
  | .panicked chain,w''=>Q (.panic chain) a w''
  | .outgrown,_=>LetsOut Q):=fun en w' ⟨E',u1,u2,u3,u4,u5⟩=>by
  have:=hk E' w' u1 u2 u3 u4;cases tQ with
  |ret v=>cases en with
   |returned v'=>exact this v' u5
   |panicked _=>exact u5.elim
   |outgrown=>exact u5.elim
  |zz v=>cases en with
   |returned v'=>exact u5.elim
   |panicked chain=>obtain⟨v',q1,rfl⟩:=u5;exact this v' q1
   |outgrown=>exact u5.elim
 rcases fH with⟨fH,h2⟩|⟨m,l,s,h2,h3,fH⟩
 . rw[fH,Oper.uponIn_enter];have hc:CallsIn Fence.wide (0-1) P f c7.toArray w _:=callsIn_wide.2 (((oz f args h n tQ h' n' ec E w c7 h1 g hn).1 h2).mono Ep);exact⟨fun hd=>by simp[fz,Fence.wide]at hd,hc⟩
 . obtain⟨fn,tmps,assign,body,q1,q2⟩:=(oz f args h n tQ h' n' ec E w c7 h1 g hn).2 m l s h2 h3;rw[fH,q1,Oper.uponIn_round];have hc:RoundIn Fence.wide (0-1) P l fn tmps assign body w _:=q2.mono Ep;exact⟨fun hd=>by simp[fz,Fence.wide]at hd,hc⟩
theorem Pu{v:V}(g:Good E h w)(hn:E.ι n=none)(hr:∀x∈o.op.operands,mB E fr a.eval x)(e:dy P o fr h n=some (.panic v))
  (hk:∀v',dz E v v'->Q (.panic [{ v:=v',recovered:=false }]) a w):o.wpIn (fz uK) 0 P a w K Q:=by
 obtain⟨v',fH,h1⟩:=mC g hn hr e;refine⟨fun _ _=>trivial,?_⟩;rw[k9 (vN e fun _ _ _=>by simp)];rw[fH,Oper.uponIn_panic];exact hk v' h1
theorem Yp{f:FuncId}{c args:ag}(TC:uK=none)(g:Good E h w)(hn:E.ι n=none)(hr:∀x∈o.op.operands,mB E fr a.eval x)(e:dy P o fr h n=some (.me f c args))
  (hk:∀c' c7,dG E c c'->dG E args c7->K ({ a with defers:={ target:=.fn (.func f) c'.toArray,args:=c7.toArray }::a.defers }.put o.dst undef) w):o.wpIn (fz uK) 0 P a w K Q:=by
 subst TC;obtain⟨c',c7,fH,h1,h2⟩:=mC g hn hr e;refine⟨fun _ _=>trivial,?_⟩;show o.uponIn (fz none) 0 P a K Q ((Oper.semAt none a.eval o).run P w);rw[Oper.semAt_none,fH,Oper.uponIn_defer];exact hk c' c7 h1 h2
end
def Sub(x y:Tr O):Prop:=∀k b,x.get k=some b->y.get k=some b
section
variable{P:Program}{fr:Tr V}{x:Tr O}{n:Nat}
theorem HE{o:Oper}{r:R}(hp:qc o.op=true)(e:dy P o fr x n=some r):∃v,r= .val v x n/\∀(y:Tr O) (k:Nat),dy P o fr y k=some (.val v y k):=by
 obtain⟨dst,op,ty,pos,after,guard⟩:=o;simp only at hp;cases op<;>simp only[qc]at hp<;>first|(cases hp;done)|skip
 all_goals simp only[dy]at e
 case move a=>obtain⟨v,h1,rfl⟩:=fN e;exact⟨v,rfl,fun y k=>by simp only[dy,h1,mM]⟩
 case assign a=>obtain⟨v,h1,rfl⟩:=fN e;exact⟨v,rfl,fun y k=>by simp only[dy,h1,mM]⟩
 case pick c a b=>
  split at e
  . rename_i hc;obtain⟨v,h1,rfl⟩:=fN e;exact⟨v,rfl,fun y k=>by simp only[dy,hc,h1,mM]⟩
  . rename_i hc;obtain⟨v,h1,rfl⟩:=fN e;exact⟨v,rfl,fun y k=>by simp only[dy,hc,h1,mM]⟩
  . cases e
 case build t parts=>
  split at e
  . rename_i ps hc;obtain⟨v,h1,rfl⟩:=fN e;exact⟨v,rfl,fun y k=>by simp only[dy,hc,h1,mM]⟩
  . cases e
 case nilCheck a=>
  split at e
  . rename_i p hc;obtain rfl:=ek e;exact⟨_,rfl,fun y k=>by simp only[dy,hc]⟩
  . rename_i hc;obtain rfl:=ek e;exact⟨_,rfl,fun y k=>by simp only[dy,hc]⟩
  . rename_i hc;obtain rfl:=ek e;exact⟨_,rfl,fun y k=>by simp only[dy,hc]⟩
  . rename_i t v hc;obtain rfl:=ek e;exact⟨_,rfl,fun y k=>by simp only[dy,hc]⟩
  . cases e
 case binOp op t a b yt=>
  split at e
  . rename_i u w h1 h2;obtain⟨v,h3,rfl⟩:=fN e;exact⟨v,rfl,fun y k=>by simp only[dy,h1,h2,h3,mM]⟩
  . cases e
 case unOp op t a=>
  split at e
  . rename_i u h1;obtain⟨v,h3,rfl⟩:=fN e;exact⟨v,rfl,fun y k=>by simp only[dy,h1,h3,mM]⟩
  . cases e
 case makeInterface t a=>
  split at e
  . rename_i v d h1 h2;split at e
    . cases e
    . rename_i hd;obtain rfl:=ek e;refine⟨_,rfl,fun y k=>?_⟩;simp only[dy,h1,h2]
  . cases e
 case makeFunc f a c=>
  split at e
  . rename_i u w h1 h2;split at e
    case isFalse=>cases e
    rename_i hny;obtain rfl:=ek e;exact⟨_,rfl,fun y k=>by simp only[dy,h1,h2,hny,if_true]⟩
  . cases e
 case fieldAddr t a f=>
  split at e
  . rename_i u h1;obtain⟨v,h3,rfl⟩:=fN e;exact⟨v,rfl,fun y k=>by simp only[dy,h1,h3,mM]⟩
  . cases e
 case field t a f=>
  split at e
  . rename_i u h1;obtain⟨v,h3,rfl⟩:=fN e;exact⟨v,rfl,fun y k=>by simp only[dy,h1,h3,mM]⟩
  . cases e
 case indexAddr t a i=>
  split at e
  . rename_i u w h1 h2;obtain⟨v,h3,rfl⟩:=fN e;exact⟨v,rfl,fun y k=>by simp only[dy,h1,h2,h3,mM]⟩
  . cases e
 case index t a i=>
  split at e
  . rename_i u w h1 h2;obtain⟨v,h3,rfl⟩:=fN e;exact⟨v,rfl,fun y k=>by simp only[dy,h1,h2,h3,mM]⟩
  . cases e
 case typeAssert a s t ok=>
  split at e
  . rename_i u h1;obtain⟨v,h3,rfl⟩:=fN e;exact⟨v,rfl,fun y k=>by simp only[dy,h1,h3,mM]⟩
  . cases e
 case extract a i=>
  split at e
  . rename_i vs h1;obtain⟨v,h3,rfl⟩:=fN e;exact⟨v,rfl,fun y k=>by simp only[dy,h1,h3,mM]⟩
  . cases e
section
variable{t:TypeId}{o:Oper}{a:V}{r:R}
theorem HF{v:V}{y:Tr O}(hs:Sub x y)(e:loadAt P t x a=some v):loadAt P t y a=some v:=by
 unfold loadAt at e ⊢;split at e
 . rename_i m o;split at e
   . rename_i cs hm;simp only[hs m _ hm];exact e
   . rename_i k ks hm;simp only[hs m _ hm];exact e
   . rename_i k ks hm;simp only[hs m _ hm];exact e
   . rename_i cs hm;simp only[hs m _ hm];exact e
   . rename_i T self x0 hm;simp only[hs m _ hm];exact e
   . cases e
 . exact e
 . cases e
theorem FR{m k:Nat}{y:Tr O}(hs:Sub x y)(e:x4 x m k=true):x4 y m k=true:=by
 unfold x4 at e ⊢;split at e
 . rename_i cs hm;simp only[hs m _ hm];exact e
 . cases e
theorem HG{v:V}{lo hi mx:Option V}{y:Tr O}(hs:Sub x y)(e:mq P t x a lo hi mx=some v):mq P t y a lo hi mx=some v:=by
 unfold mq at e ⊢;split at e
 . cases e
 . rename_i h0;rw[aI h0];split at e
   . exact e
   . exact e
   . exact e
   . rename_i nn el b o hu;cases h1:kK P el with
     |none=>simp[h1]at e
     |some s=>cases h2:eJ nn nn mx with
      |none=>simp[h1,h2]at e
      |some m=>cases h3:eJ nn m hi with
       |none=>simp[h1,h2,h3]at e
       |some hh=>cases h4:eJ 0 hh lo with
        |none=>simp[h1,h2,h3,h4]at e
        |some l=>
         simp only[h1,h2,h3,h4]at e ⊢;split at e
         . rename_i hq;rw[aG ⟨hq.1,hq.2.1,FR hs hq.2.2⟩];exact e
         . cases e
   . cases e
theorem FT{k v:V}{ok:Bool}{y:Tr O}(hs:Sub x y)(e:vC P t x a k ok=some v):vC P t y a k ok=some v:=by
 unfold vC at e ⊢;split at e
 . split at e
   . cases a with
     |map m=>
      cases m with
      |none=>exact e
      |some m=>
       simp only[V.Wx]at e ⊢;cases hm:x.get m with
       |none=>simp[hm]at e
       |some o=>
        have hy:=hs m o hm;rw[hy];rw[hm]at e;cases o with
        |dD kk es=>exact e
        |_=>simp only[hy];simp only[hm]at e;exact e
     |_=>exact e
   . cases e
 . cases e
theorem Ni{ts:Array TypeId}{as:ag}{v:V}{y:Tr O}(hs:Sub x y)(e:M0 P ts as x=some v):M0 P ts as y=some v:=by
 unfold M0 at e ⊢;split at e
 . split at e
   . exact e
   . exact e
   . exact e
   . exact e
   . exact e
   . rename_i m hu;cases hm:x.get m with
     |none=>simp[hm]at e
     |some o=>
      simp only[hs m o hm];simp only[hm]at e;exact e
   . cases e
 . cases e
theorem JU{o:O}{p:Tr O×Nat}(e:newObj x n o=some p)(y:Tr O):n<fI/\p=(x.set n (some o),n+1)/\newObj y n o=some (y.set n (some o),n+1):=by
 obtain⟨h',n'⟩:=p;obtain⟨h1,rfl,rfl⟩:=kG e;exact⟨h1,rfl,by simp[newObj,h1]⟩
def uL(P:Program)(o:Oper)(fr:Tr V)(x:Tr O)(n:Nat)(r:R):Prop:=
 (∃v,r= .val v x n/\∀y,Sub x y->dy P o fr y n=some (.val v y n)) \/
 (∃v b,n<fI/\r= .val v (x.set n (some b)) (n+1)/\∀y,dy P o fr y n=some (.val v (y.set n (some b)) (n+1)))
theorem uL.alloc{ob:O}{v:V}{h':Tr O}{n':Nat}(e:newObj x n ob=some (h',n'))(k:∀(y h2:Tr O) (m:Nat),newObj y n ob=some (h2,m)->dy P o fr y n=some (.val v h2 m)):uL P o fr x n (.val v h' n'):=by
 obtain⟨h1,rfl,rfl⟩:=kG e;exact .inr ⟨v,ob,h1,rfl,fun y=>k y _ _ (JU e y).2.2⟩
theorem DW(hp:qc o.op=true)(e:dy P o fr x n=some r):uL P o fr x n r:=by
 obtain⟨v,h1,h2⟩:=HE hp e;exact .inl ⟨v,h1,fun y _=>h2 y n⟩
theorem quiet(hq:qM o.op=false)(e:dy P o fr x n=some r):uL P o fr x n r:=by
 by_cases hp:qc o.op=true
 . exact DW hp e
 have e0:=e;obtain⟨dst,op,ty,pos,after,guard⟩:=o;simp only at hq hp;cases op<;>simp only[qM]at hq<;>first|(cases hq;done)|skip
 all_goals first|(exact absurd rfl hp)|skip
 all_goals simp only[dy]at e
 case alloc t=>
  split at e
  . rename_i z hz;split at e
    . rename_i h' n' ho;obtain rfl:=ek e;exact uL.alloc ho fun y h2 m q=>by simp only[dy,hz,q]
    . cases e
  . cases e
 case box t a=>
  split at e
  . rename_i v hv;split at e
    . rename_i h' n' ho;obtain rfl:=ek e;exact uL.alloc ho fun y h2 m q=>by simp only[dy,hv,q]
    . cases e
  . cases e
 case buildSlice t cN parts=>
  split at e
  . rename_i ps G1;unfold ow at e;split at e
    . rename_i el he;split at e
      . rename_i s z hs hz;split at e
        . rename_i hc;split at e
          . rename_i cs hf;split at e
            . rename_i h' n' ho;obtain rfl:=ek e;exact uL.alloc ho fun y h2 m q=>by
               simp only[dy,G1,ow,he,hs,hz];rw[aG hc];simp only[hf,q]
            . cases e
          . cases e
        . cases e
      . cases e
    . cases e
  . cases e
 case load t a=>
  split at e
  . rename_i v hv;obtain⟨u,h1,rfl⟩:=fN e;exact .inl ⟨u,rfl,fun y hs=>by simp only[dy,hv,HF hs h1,mM]⟩
  . cases e
 case convert s d a=>
  split at e
  . rename_i v hv;unfold qa at e;split at e
    . rename_i h1 h2;obtain rfl:=ek e;exact .inl ⟨_,rfl,fun y hs=>by simp only[dy,hv,qa,h1,h2]⟩
    . rename_i h1 h2;obtain rfl:=ek e;exact .inl ⟨_,rfl,fun y hs=>by simp only[dy,hv,qa,h1,h2]⟩
    . rename_i h1 h2;split at e
      . rename_i h3;split at e
        . rename_i h' n' ho;obtain rfl:=ek e;exact uL.alloc ho fun y Tv m q=>by simp only[dy,hv,qa,h1,h2,h3,q]
        . cases e
      . cases e
    . rename_i h1 h2;split at e
      . rename_i h3;obtain rfl:=ek e;exact .inl ⟨_,rfl,fun y hs=>by simp only[dy,hv,qa,h1,h2,h3]⟩
      . cases e
    . rename_i h1 h2;split at e
      . rename_i h3;obtain rfl:=ek e;exact .inl ⟨_,rfl,fun y hs=>by simp only[dy,hv,qa,h1,h2,h3]⟩
      . cases e
    . rename_i h1 h2;split at e
      . rename_i h3;split at e
        . rename_i h4;have key:∀y:Tr O,Sub x y->∀m,Au (x.get m)=Au (y.get m)\/x.get m=none:=fun y hs m=>by
           cases hm:x.get m with
           |none=>exact .inr rfl
           |some o=>rw[hs m o hm];exact .inl rfl
          have acF:∀y:Tr O,Sub x y->∀m,uj (x.get m)=uj (y.get m)\/x.get m=none:=fun y hs m=>by
           cases hm:x.get m with
           |none=>exact .inr rfl
           |some o=>rw[hs m o hm];exact .inl rfl
          rename_i m0 o0 aqP _ _ _;split at e
          . rename_i s0 FH;split at e
            . rename_i hl;obtain rfl:=ek e;refine .inl ⟨_,rfl,fun y hs=>?_⟩;simp only[dy,hv,qa,h1,h2,h3];rw[aG h4];rcases acF y hs m0 with q|q
              . rw[<- q,FH];simp only[aG hl]
              . rw[q]at FH;cases FH
            . cases e
          . rename_i aie;split at e
            . rename_i ks DI;split at e
              . rename_i hl;obtain rfl:=ek e;refine .inl ⟨_,rfl,fun y hs=>?_⟩;simp only[dy,hv,qa,h1,h2,h3];rw[aG h4];rcases acF y hs m0 with q|q
                . rw[<- q,aie];rcases key y hs m0 with q|q
                  . rw[<- q,DI];simp only[aG hl]
                  . rw[q]at DI;cases DI
                . rw[q]at DI;cases DI
              . cases e
            . rename_i DI;split at e
              . obtain rfl:=ek e;refine .inl ⟨_,rfl,fun y hs=>?_⟩;simp only[dy,hv,qa,h1,h2,h3];rw[aG h4];cases uj (y.get m0)with
                |some s0=>simp
                |none=>
                 cases Au (y.get m0)with
                 |none=>rfl
                 |some ks=>simp[eM]
              . split at e
                . rename_i cs hm;split at e
                  . rename_i bs hc;split at e
                    . rename_i s' ht;obtain rfl:=ek e;refine .inl ⟨_,rfl,fun y hs=>?_⟩;simp only[dy,hv,qa,h1,h2,h3];rw[aG h4];simp only[hs _ _ hm,uj,Au,hc,ht]
                    . cases e
                  . cases e
                . cases e
        . cases e
      . cases e
    . cases e
  . cases e
 case makeMap t Pt=>
  cases Pt with
  |some _=>simp at e
  |none=>
   simp only at e;split at e
   . rename_i h' n' ho;obtain rfl:=ek e;exact uL.alloc ho fun y h2 m q=>by simp only[dy,q]
   . cases e
 case makeSlice t l c=>
  split at e
  . rename_i lv cv h1 h2;unfold nJ at e;split at e
    . rename_i el k l0 k' c0 he;split at e
      . rename_i i z h3 h4;simp only at e;split at e
        . rename_i hc;split at e
          . rename_i h' n' ho;obtain rfl:=ek e;exact uL.alloc ho fun y Tv m q=>by
             simp only[dy,h1,h2,nJ,he,h3,h4];rw[aG hc];simp only[q]
          . cases e
        . cases e
      . cases e
    . cases e
  . cases e
 case slice t a lo hi mx=>
  split at e
  . rename_i v lov hiv mxv h1 h2 h3 h4;obtain⟨u,h5,rfl⟩:=fN e;exact .inl ⟨u,rfl,fun y hs=>by simp only[dy,h1,h2,h3,h4,HG hs h5,mM]⟩
  . cases e
 case lookup t a k ok=>
  split at e
  . rename_i v kv h1 h2;obtain⟨u,h5,rfl⟩:=fN e;exact .inl ⟨u,rfl,fun y hs=>by simp only[dy,h1,h2,FT hs h5,mM]⟩
  . cases e
 case range t a=>
  split at e
  . rename_i v hv;unfold BN at e;split at e
    . rename_i s hu;split at e
      . rename_i h' n' ho;obtain rfl:=ek e;exact uL.alloc ho fun y Tv m q=>by simp only[dy,hv,BN,hu,q]
      . cases e
    . cases e
  . cases e
 case call c=>
  obtain⟨cal,args,ats⟩:=c;cases cal with
  |value f=>simp at hq
  |invoke f m=>simp at hq
  |builtin b=>
   simp only[wD]at e;split at e
   . rename_i as ha;cases b<;>simp only[]at hq<;>first|(cases hq;done)|skip
     . simp only[kY]at e;obtain⟨u,h5,rfl⟩:=fN e;exact .inl ⟨u,rfl,fun y hs=>by simp only[dy,wD,ha,kY,Ni hs h5,mM]⟩
     . simp only[kY]at e;split at e
       . obtain⟨u,h5,rfl⟩:=fN e;exact .inl ⟨u,rfl,fun y hs=>by simp only[dy,wD,ha,kY,h5,mM]⟩
       . cases e
     . simp only[kY]at e;split at e
       . obtain⟨u,h5,rfl⟩:=fN e;exact .inl ⟨u,rfl,fun y hs=>by simp only[dy,wD,ha,kY,h5,mM]⟩
       . cases e
   . cases e
 all_goals (cases e)
end
end
theorem Cb(l:List Oper)(o:Oper):o6 (l++[o])=o6 l++[eL (o6 l) o.after.toList]:=by simp[o6]
theorem wH:∀(l:List Oper) (gl:List Nat),(l.foldl (fun gl o=>gl++[eL gl o.after.toList]) gl).length=gl.length+l.length
 | [],gl=>by simp
 |o::l,gl=>by simp only[List.foldl_cons];rw[wH l];simp;omega
theorem FU(l:List Oper):(o6 l).length=l.length:=by unfold o6;rw[wH];simp
def lU(ops:Array Oper)(j:Nat):Nat:=match ops[j]? with
 |some o=>eL (o6 (ops.toList.take j)) o.after.toList
 |none=>0
theorem Er{α:Type}{l:List α}{i:Nat}{o:α}(h:l[i]? =some o):l.take (i+1)=l.take i++[o]:=by
 rw[bI,h];rfl
theorem nf(ops:Array Oper):∀i,i<=ops.size->∀k,k<i->(o6 (ops.toList.take i)).getD k 0=lU ops k
 |0,_,k,hk=>by omega
 |i+1,hi,k,hk=>by
  have ho:ops.toList[i]? =some ops[i]:=by rw[bK];exact bk be
  rw[Er ho,Cb];have hl:(o6 (ops.toList.take i)).length=i:=by rw[FU];simp;omega
  by_cases q:k<i
  . rw[aM,bw be,<- aM];exact nf ops i be k q
  . have:k=i:=by omega
    subst this;rw[aM,cj be,hl];simp only[Nat.sub_self,bF,Option.getD_some];unfold lU;rw[<- bK,ho]
theorem zK(a b i:Nat):dS (a|||b) i=(dS a i||dS b i):=Nat.testBit_or a b i
theorem Cc(k i:Nat):dS (2^k) i=decide (k=i):=Nat.testBit_two_pow
theorem jZ(i:Nat):dS 0 i=false:=Nat.zero_testBit i
theorem xj(ee:List Nat)(k:Nat):∀es:List Edge,dS (eL ee es) k=true↔∃e∈es,Region.binds .any e=true/\(e.on=k\/dS (ee.getD e.on 0) k=true)
 | []=>by simp[eL,jZ]
 |e::es=>by
  simp only[eL];by_cases hb:Region.binds .any e=true
  . rw[aG hb,zK,zK,Cc,bS,bS,xj ee k es];simp only[bB,aE];constructor
    . rintro(⟨x,h1,h2,h3⟩|h|h)
      . exact⟨x,.inr h1,h2,h3⟩
      . exact⟨e,.inl rfl,hb,.inl h⟩
      . exact⟨e,.inl rfl,hb,.inr h⟩
    . rintro⟨x,rfl|h1,h2,h3⟩
      . exact .inr h3
      . exact .inl ⟨x,h1,h2,h3⟩
  . rw[aI hb,xj ee k es];simp only[aE];constructor
    . rintro⟨x,h1,h2,h3⟩;exact⟨x,.inr h1,h2,h3⟩
    . rintro⟨x,rfl|h1,h2,h3⟩
      . exact absurd h2 hb
      . exact⟨x,h1,h2,h3⟩
def vO(ops:Array Oper):Prop:=∀(j:Nat) (o:Oper),ops[j]? =some o->∀e∈o.after,Region.binds .any e=true->e.on<j
section
variable{ops:Array Oper}
theorem yB(he:vO ops){j k:Nat}{o:Oper}(ho:ops[j]? =some o):
  dS (lU ops j) k=true↔∃e∈o.after,Region.binds .any e=true/\(e.on=k\/dS (lU ops e.on) k=true):=by
 have hj:j<ops.size:=(aQ.1 ho).1;unfold lU;simp only[ho];rw[xj];constructor
 . rintro⟨e,h1,h2,h3⟩;have mh:e∈o.after:=by simpa using h1
   have fE:=he j o ho e mh h2;refine⟨e,mh,h2,h3.imp id fun q=>?_⟩;rw[nf ops j be e.on fE]at q;exact q
 . rintro⟨e,h1,h2,h3⟩;have fE:=he j o ho e h1 h2;refine⟨e,by simpa using h1,h2,h3.imp id fun q=>?_⟩;rw[nf ops j be e.on fE];exact q
theorem JV(he:vO ops):∀j k,dS (lU ops j) k=true->k<j:=by
 intro j
 induction j using Nat.strongRecOn with
 |_ j ih=>
  intro k h;cases ho:ops[j]? with
  |none=>simp[lU,ho,jZ]at h
  |some o=>
   obtain⟨e,h1,h2,h3⟩:=(yB he ho).1 h;have fE:=he j o ho e h1 h2;rcases h3 with rfl|h3
   . exact fE
   . exact Nat.lt_trans (ih e.on fE k h3) fE
theorem Es(he:vO ops):∀j i k,dS (lU ops j) i=true->dS (lU ops i) k=true->dS (lU ops j) k=true:=by
 intro j
 induction j using Nat.strongRecOn with
 |_ j ih=>
  intro i k h h';cases ho:ops[j]? with
  |none=>simp[lU,ho,jZ]at h
  |some o=>
   obtain⟨e,h1,h2,h3⟩:=(yB he ho).1 h;have fE:=he j o ho e h1 h2;refine(yB he ho).2 ⟨e,h1,h2,.inr ?_⟩;rcases h3 with rfl|h3
   . exact h'
   . exact ih e.on fE i k h3 h'
theorem Cd(he:vO ops){S:Nat->Prop}(hS:∀j o,S j->ops[j]? =some o->∀e∈o.after,Region.binds .any e=true->S e.on):
  ∀j k,S j->dS (lU ops j) k=true->S k:=by
 intro j
 induction j using Nat.strongRecOn with
 |_ j ih=>
  intro k hj h;cases ho:ops[j]? with
  |none=>simp[lU,ho,jZ]at h
  |some o=>
   obtain⟨e,h1,h2,h3⟩:=(yB he ho).1 h;have hs:=hS j o hj ho e h1 h2;rcases h3 with rfl|h3
   . exact hs
   . exact ih e.on (he j o ho e h1 h2) k hs h3
end
structure mI(ops:Array Oper)(N:Nat):Prop where
 yC:vO ops
 dst:∀(j:Nat) (o:Oper),ops[j]? =some o->nc N o.dst
 one:∀(i j:Nat) (o q:Oper) (t:Nat),ops[i]? =some o->ops[j]? =some q->o.dst=some t->q.dst=some t->i=j
 use:∀(i j:Nat) (o q:Oper) (t:Nat),ops[i]? =some o->ops[j]? =some q->i≠j->o.dst=some t->t∈uz ops q->if i<j then dS (lU ops j) i=true else dS (lU ops i) j=true
theorem JW{ops:Array Oper}{N:Nat}(h:O3 ops N=true):mI ops N:=by
 unfold O3 at h;rw[bn]at h;have at_:∀j o,ops[j]? =some o->(o.after.toList.all (fun e=>!Region.binds .any e||decide (e.on<j))=true/\(match o.dst with|some d=>decide (d<N)|none=>true)=true/\
   ∀i,i<ops.size->i≠j->FC ops (o6 ops.toList) i j=true):=by
  intro j o ho;have hj:j<ops.size:=(aQ.1 ho).1;have:=h j (List.mem_range.2 hj);simp only[ho,aC,bn,List.mem_range]at this;obtain⟨⟨h1,h2⟩,h3⟩:=this;refine⟨by rw[bn];exact h1,h2,fun i hi fL=>?_⟩;have:=h3 i hi;simp only[bS]at this;rcases this with q|q
  . exact absurd (aD q) fL
  . exact q
 have hm:∀j,j<ops.size->(o6 ops.toList).getD j 0=lU ops j:=fun j hj=>by
  have:=nf ops ops.size (aA _) j hj;rwa [show ops.toList.take ops.size=ops.toList from by rw[bq];simp]at this
 refine⟨?_,?_,?_,?_⟩
 . intro j o ho e he hb;obtain⟨h1,_,_⟩:=at_ j o ho;rw[bn]at h1;have:=h1 e (by simpa using he);simp only[hb,Bool.not_true,Bool.false_or,bB]at this;exact this
 . intro j o ho d hd;obtain⟨_,h2,_⟩:=at_ j o ho;rw[hd]at h2;simpa using h2
 . intro i j o q t hi hj ho hq;by_cases e:i=j
   . exact e
   . obtain⟨_,_,h3⟩:=at_ j q hj;have:=h3 i (aQ.1 hi).1 e;simp only[FC,hi,hj,ho,hq,aC,Bool.not_eq_true']at this;have h1:=this.1;rw[cL]at h1;cases h1
 . intro i j o q t hi hj fL ho ht;obtain⟨_,_,h3⟩:=at_ j q hj;have Pv:=(aQ.1 hi).1;have OL:=(aQ.1 hj).1;have:=h3 i Pv fL;have hc:(uz ops q).contains t=true:=by simpa using ht
   simp only[FC,hi,hj,ho,aC,hc,if_true,hm i Pv,hm j OL]at this;have h2:=this.2;split
   . rename_i q;rw[aG q]at h2;exact h2
   . rename_i q;rw[aI q]at h2;exact h2
abbrev xk:=Nat×Nat×Tr O×Nat
def eC(h0:Tr O)(c0:Nat)(dx:List xk):Nat->Nat×Tr O×Nat
 |0=>(0,h0,c0)
 |c+1=>match dx[c]? with
  |some e=>e.2
  |none=>(0,h0,c0)
section
variable{h0:Tr O}{c0:Nat}{dx:List xk}{e:xk}
theorem qj{c:Nat}(h:c<=dx.length):eC h0 c0 (dx++[e]) c=eC h0 c0 dx c:=by
 cases c with
 |zero=>rfl
 |succ c=>simp only[eC];rw[bw be]
theorem xl:eC h0 c0 (dx++[e]) (dx.length+1)=e.2:=by
 simp[eC]
end
def s9(h0:Tr O)(c0:Nat)(dx:List xk):Nat->List (Nat×Nat×Tr O)
 |0=>[]
 |c+1=>match dx[c]? with
  |some e=>(e.1,(eC h0 c0 dx c).1,(eC h0 c0 dx c).2.1)::s9 h0 c0 dx c
  |none=>s9 h0 c0 dx c
theorem AB{h0:Tr O}{c0:Nat}{dx:List xk}{e:xk}:∀c,c<=dx.length->s9 h0 c0 (dx++[e]) c=s9 h0 c0 dx c
 |0,_=>rfl
 |c+1,h=>by
  simp only[s9];rw[bw be,qj be,AB c be]
structure zL(ops:Array Oper)(jY:Tr V)(val:Nat->V)(j:Nat)(fr:Tr V):Prop where
 new:∀(i:Nat) (o:Oper) (t:Nat),i<j->ops[i]? =some o->o.dst=some t->fr.get t=some (val i)
 old:∀(t:Nat),(∀(i:Nat) (o:Oper),i<j->ops[i]? =some o->o.dst≠some t)->fr.get t=jY.get t
section
variable(P:Program)(cf:fJ)(ops:Array Oper)(n0:Nat)(h0:Tr O)(jY:Tr V)
def uM(val:Nat->V)(cU:af)(reads:List (Nat×Nat×Oper×Tr V×V))(dx:List xk)(j:Nat)(o:Oper):Prop:=
 ∃fr,zL ops jY val j fr/\
  ((iq ops o fr=some false/\val j= .eo []) \/
   (iq ops o fr=some true/\qM o.op=false/\(∃b,(j,b)∈cU/\n0+j<fI/\∀y,dy P o fr y (n0+j)=some (.val (val j) (y.set (n0+j) (some b)) (n0+j+1)))) \/
   (iq ops o fr=some true/\qM o.op=false/\(∀y,dy P o fr y (n0+j)=some (.val (val j) y (n0+j)))) \/
   (iq ops o fr=some true/\qM o.op=false/\(j,lU ops j,o,fr,val j)∈reads/\
    ∀c,c<=dx.length->(∀(c':Nat) (e:xk),c<=c'->dx[c']? =some e->dS (lU ops j) e.1=false)->(∀(c':Nat) (e:xk),c'<c->dx[c']? =some e->dS e.2.1 j=false)->
     ∃y,dy P o fr (gH n0 cU (eC h0 (n0+ops.size) dx c).1 (eC h0 (n0+ops.size) dx c).2.1 (lU ops j)) (n0+j)=some (.val (val j) y (n0+j))) \/
   (iq ops o fr=some true/\qM o.op=true/\∃c h n,dx[c]? =some (j,lU ops j,h,n)/\
    (let x:=eC h0 (n0+ops.size) dx c
     (dy P o fr (gH n0 cU x.1 x.2.1 (lU ops j)) x.2.2=some (.val (val j) h n)) \/
     ∃f args,dy P o fr (gH n0 cU x.1 x.2.1 (lU ops j)) x.2.2=some (.call f args)/\cf f args (gH n0 cU x.1 x.2.1 (lU ops j)) x.2.2=some (.ret (val j),h,n))))
def rP(val:Nat->V)(j:Nat)(o:Oper)(b:O):Prop:=
 ∃fr,zL ops jY val j fr/\iq ops o fr=some true/\qM o.op=false/\n0+j<fI/\b.wr=true/\∀y,dy P o fr y (n0+j)=some (.val (val j) (y.set (n0+j) (some b)) (n0+j+1))
structure oA(val:Nat->V)(dx:List xk)(i:Nat)(d:Dr):Prop where
 ee:d.ee=o6 (ops.toList.take i)
 fr:zL ops jY val i d.fr
 cur:d.cur=((eC h0 (n0+ops.size) dx dx.length).1,(eC h0 (n0+ops.size) dx dx.length).2.1)
 n:d.n=(eC h0 (n0+ops.size) dx dx.length).2.2
 pC:d.pC=s9 h0 (n0+ops.size) dx dx.length
 last:d.last=(dx.getLast?).map (·.1)
 uN:∀(c:Nat) (e:xk),dx[c]? =some e->e.1<i/\∃o:Oper,ops[e.1]? =some o/\qM o.op=true/\e.2.1=lU ops e.1
 cU:∀x∈d.cU,x.1<i
 one:∀(j:Nat) (b b':O),(j,b)∈d.cU->(j,b')∈d.cU->b=b'
 zM:∀(c:Nat) (e:xk) (o:Oper),dx[c]? =some e->ops[e.1]? =some o->∃fr,zL ops jY val e.1 fr/\iq ops o fr=some true
 Bm:∀(j:Nat) (o:Oper) (b:O),(j,b)∈d.cU->ops[j]? =some o->rP P ops n0 jY val j o b
 chain:∀(c c':Nat) (e e':xk),c'<c->dx[c]? =some e->dx[c']? =some e'->dS (lU ops e.1) e'.1=true
 Yq:∀(j:Nat) (o:Oper),j<i->ops[j]? =some o->uM P cf ops n0 h0 jY val d.cU d.reads dx j o
end
mutual
theorem TD:∀(a b:D),D.beq a b=true->a=b
 | .bool a,b,h=>by cases b<;>simp[D.beq]at h;rw[h]
 | .int k a,b,h=>by cases b<;>simp[D.beq]at h;rw[h.1,h.2]
 | .str a,b,h=>by
   cases b<;>simp only[D.beq]at h<;>first|(cases h;done)|skip
   rw[fT]at h;rw[eq_of_beq h]
 | .dL n a,b,h=>by
   cases b<;>simp only[D.beq]at h<;>first|(cases h;done)|skip
   simp only[aC]at h;rw[aD h.1,uO _ _ h.2]
 | .agg a,b,h=>by
   cases b<;>simp only[D.beq]at h<;>first|(cases h;done)|skip
   rw[uO _ _ h]
theorem uO:∀(a b:ai),D.pA a b=true->a=b
 | [],b,h=>by cases b<;>simp[D.pA]at h;rfl
 |x::xs,b,h=>by
  cases b with
  |nil=>simp[D.pA]at h
  |cons y ys=>
   simp only[D.pA,aC]at h;rw[TD x y h.1,uO xs ys h.2]
end
mutual
theorem Nj:∀(a:D),D.beq a a=true
 | .bool a=>by simp[D.beq]
 | .int k a=>by simp[D.beq]
 | .str a=>by simp only[D.beq];rw[fT];simp
 | .dL n a=>by simp only[D.beq,cL,ql a,Bool.and_self]
 | .agg a=>by simp only[D.beq,ql a]
theorem ql:∀(a:ai),D.pA a a=true
 | []=>rfl
 |x::xs=>by simp only[D.pA,Nj x,ql xs,Bool.and_self]
end
mutual
theorem beq_eq:∀(a b:V),V.beq a b=true->a=b
 | .bool a,b,h=>by cases b<;>simp[V.beq]at h;rw[h]
 | .int k a,b,h=>by cases b<;>simp[V.beq]at h;rw[h.1,h.2]
 | .str a,b,h=>by
   cases b<;>simp only[V.beq]at h<;>first|(cases h;done)|skip
   rw[fT]at h;rw[eq_of_beq h]
 | .ptr a,b,h=>by
   cases b<;>simp only[V.beq]at h<;>first|(cases h;done)|skip
   rw[Ce _ _ h]
 | .di a l c e,b,h=>by
   cases b<;>simp only[V.beq]at h<;>first|(cases h;done)|skip
   simp only[aC]at h;obtain⟨⟨⟨h1,h2⟩,h3⟩,h4⟩:=h;rw[Ce _ _ h1,aD h2,aD h3,aD h4]
 | .map a,b,h=>by
   cases b<;>simp only[V.beq]at h<;>first|(cases h;done)|skip
   rename_i c;cases a<;>cases c<;>simp only[FA]at h<;>first|(cases h;done)|skip
   . rfl
   . rw[aD h]
 | .fn f a c,b,h=>by
   cases b<;>simp only[V.beq]at h<;>first|(cases h;done)|skip
   rename_i g b d;simp only[aC]at h;obtain⟨⟨h1,h2⟩,h3⟩:=h;rw[tc a b h2,tc c d h3];cases f<;>cases g<;>simp only[O2]at h1<;>first|(cases h1;done)|skip
   all_goals rw[aD h1]
 | .kA,b,h=>by cases b<;>simp only[V.beq]at h<;>first|(cases h;done)|rfl
 | .iface t x,b,h=>by
   cases b<;>simp only[V.beq]at h<;>first|(cases h;done)|skip
   rename_i u y;simp only[aC]at h;rw[aD h.1,beq_eq x y h.2]
 | .nilIface,b,h=>by cases b<;>simp only[V.beq]at h<;>first|(cases h;done)|rfl
 | .agg a,b,h=>by
   cases b<;>simp only[V.beq]at h<;>first|(cases h;done)|skip
   rw[tc _ _ h]
 | .eo a,b,h=>by
   cases b<;>simp only[V.beq]at h<;>first|(cases h;done)|skip
   rw[tc _ _ h]
 | .dL f n a,b,h=>by
   cases b<;>simp only[V.beq]at h<;>first|(cases h;done)|skip
   simp only[aC,beq_iff_eq]at h;rw[h.1,aD h.2.1,uO _ _ h.2.2]
 | .dm a,b,h=>by
   cases b<;>simp only[V.beq]at h<;>first|(cases h;done)|skip
   rw[uO _ _ h]
theorem tc:∀(a b:ag),V.pA a b=true->a=b
 | [],b,h=>by cases b<;>simp only[V.pA]at h<;>first|(cases h;done)|rfl
 |x::xs,b,h=>by
  cases b<;>simp only[V.pA]at h<;>first|(cases h;done)|skip
  simp only[aC]at h;rw[beq_eq x _ h.1,tc xs _ h.2]
theorem Ce:∀(a b:Option (Nat×Nat)),qL a b=true->a=b
 |none,b,h=>by cases b<;>simp only[qL]at h<;>first|(cases h;done)|rfl
 |some (x,y),b,h=>by
  cases b<;>simp only[qL]at h<;>first|(cases h;done)|skip
  simp only[aC]at h;rw[aD h.1,aD h.2]
end
theorem yD{P:Program}{n0 i:Nat}{o:Oper}{fr:Tr V}{v:V}{x:Tr O}(h:mF P n0 i o fr v x=true):∃y,dy P o fr x (n0+i)=some (.val v y (n0+i)):=by
 unfold mF at h;split at h
 . rename_i u y k e;simp only[aC]at h;have h1:=aD h.1;have h2:=beq_eq _ _ h.2;subst h1;subst h2;exact⟨y,e⟩
 . cases h
theorem Nk{n0 i:Nat}{b:O}{l:af}{m:Nat}{x:Tr O}{gQ:Nat}(h:dS gQ i=false):gH n0 ((i,b)::l) m x gQ=gH n0 l m x gQ:=by
 simp[gH,h]
theorem Et{P:Program}{n0 i:Nat}{o:Oper}{fr:Tr V}{v:V}{cU:af}{gQ:Nat}{h0:Tr O}{c0:Nat}{dx:List xk}:
  ∀k,k<=dx.length->qd P n0 i o fr v cU gQ (s9 h0 c0 dx k)=true->∀c,c<k->(∀(c':Nat) (e:xk),c<=c'->c'<k->dx[c']? =some e->dS gQ e.1=false)->
   ∃y,dy P o fr (gH n0 cU (eC h0 c0 dx c).1 (eC h0 c0 dx c).2.1 gQ) (n0+i)=some (.val v y (n0+i))
 |0,_,_,c,hc,_=>by omega
 |k+1,hk,h,c,hc,hn=>by
  have he:dx[k]? =some dx[k]:=ay be;simp only[s9,he,qd]at h;have hb:=hn k dx[k] be be he;rw[hb]at h;simp only[aO,cF,aC]at h;by_cases q:c=k
  . subst q;exact yD h.1
  . exact Et k be h.2 c be fun c' e h1 h2 h3=>hn c' e h1 be h3
theorem Cf{P:Program}{n0:Nat}{cU:af}{m:Nat}{x:Tr O}:∀(l:List (Nat×Nat×Oper×Tr V×V)),pD P n0 cU m x l=true->
  ∀j gQ o fr v,(j,gQ,o,fr,v)∈l->dS m j=false->∃y,dy P o fr (gH n0 cU m x gQ) (n0+j)=some (.val v y (n0+j))
 | [],_,j,gQ,o,fr,v,hm,_=>by simp at hm
 |(j',aqR,o',fr',v')::l,h,j,gQ,o,fr,v,hm,hb=>by
  simp only[pD,aC,bS]at h;rcases aE.1 hm with q|q
  . cases q;rcases h.1 with h1|h1
    . rw[hb]at h1;cases h1
    . exact yD h1
  . exact Cf l h.2 j gQ o fr v q hb
section
variable{P:Program}{cf:fJ}{ops:Array Oper}{n0 N:Nat}{h0:Tr O}{jY:Tr V}
section
variable{val iI:Nat->V}{j i:Nat}{fr:Tr V}
theorem zL.mono(h:zL ops jY val j fr)(hv:∀k,k<j->iI k=val k):zL ops jY iI j fr:=
 ⟨fun i o t hi ho hd=>by rw[hv i hi];exact h.new i o t hi ho hd,h.old⟩
theorem zL.step{fr':Tr V}{o:Oper}{v:V}(hr:mI ops N)(ho:ops[i]? =some o)(h:zL ops jY val i fr)(hv:∀k,k<i->iI k=val k)(hi:iI i=v)
  (e:iT fr o.dst v=some fr'):zL ops jY iI (i+1) fr':=by
 have h':=h.mono hv;cases hd:o.dst with
 |none=>
  rw[hd]at e;simp only[iT,an]at e;subst e;refine⟨fun k q t hk hq ht=>?_,fun t ht=>h'.old t fun k q hk hq=>ht k q be hq⟩;by_cases c:k=i
  . subst c;rw[ho]at hq;cases hq;rw[hd]at ht;cases ht
  . exact h'.new k q t be hq ht
 |some d=>
  rw[hd]at e;simp only[iT]at e;split at e
  . rename_i gD;obtain rfl:=ek e;refine⟨fun k q t hk hq ht=>?_,fun t ht=>?_⟩
    . by_cases c:k=i
      . subst c;rw[ho]at hq;cases hq;rw[hd]at ht;cases ht;rw[Tr.mS _ _ gD,hi]
      . have fL:t≠d:=by
         intro q';subst q';exact c (hr.one k i q o t hq ho ht hd)
        rw[Tr.qe _ _ gD fL];exact h'.new k q t be hq ht
    . have fL:t≠d:=by intro q;subst q;exact ht i o be ho hd
      rw[Tr.qe _ _ gD fL];exact h'.old t fun k q hk hq=>ht k q be hq
  . cases e
theorem Yr{he:vO ops}{j i:Nat}(h:j<=i):dS (lU ops j) i=false:=by
 cases q:dS (lU ops j) i with
 |false=>rfl
 |true=>have:=JV he j i q;omega
end
theorem rP.mono{val iI:Nat->V}{j:Nat}{o:Oper}{b:O}(h:rP P ops n0 jY val j o b)(hv:∀k,k<=j->iI k=val k):rP P ops n0 jY iI j o b:=by
 obtain⟨fr,f1,f2,f3,f4,f6,f5⟩:=h;exact⟨fr,f1.mono fun k hk=>hv k be,f2,f3,f4,f6,fun y=>by rw[hv j (aA _)];exact f5 y⟩
section
variable{val iI:Nat->V}{cU:af}{reads:List (Nat×Nat×Oper×Tr V×V)}{dx:List xk}
theorem uM.quiet{kP:af}{reads xm:List (Nat×Nat×Oper×Tr V×V)}{dx:List xk}{j:Nat}{o:Oper}
  (h:uM P cf ops n0 h0 jY val cU reads dx j o) (hv:∀k,k<=j->iI k=val k) (ha:∀x∈cU,x∈kP) (hr:∀x∈reads,x∈xm)
  (LI:∀m x,gH n0 kP m x (lU ops j)=gH n0 cU m x (lU ops j)):uM P cf ops n0 h0 jY iI kP xm dx j o:=by
 obtain⟨fr,f1,f2⟩:=h;refine⟨fr,f1.mono fun k hk=>hv k be,?_⟩;have hj:=hv j (aA _);rw[hj];rcases f2 with q|⟨q1,q2,b,q3,q4,q5⟩|q|⟨q1,q2,q3,q4⟩|⟨q1,q2,c,h,n,q3,q4⟩
 . exact .inl q
 . exact .inr (.inl ⟨q1,q2,b,ha _ q3,q4,q5⟩)
 . exact .inr (.inr (.inl q))
 . refine .inr (.inr (.inr (.inl ⟨q1,q2,hr _ q3,fun c hc h1 h2=>?_⟩)));rw[LI];exact q4 c hc h1 h2
 . refine .inr (.inr (.inr (.inr ⟨q1,q2,c,h,n,q3,?_⟩)));simp only[LI];exact q4
theorem uM.effect{e:xk}{j:Nat}{o:Oper}
  (h:uM P cf ops n0 h0 jY val cU reads dx j o) (hv:∀k,k<=j->iI k=val k) (iA:pD P n0 cU e.2.1 e.2.2.1 reads=true):
  uM P cf ops n0 h0 jY iI cU reads (dx++[e]) j o:=by
 obtain⟨fr,f1,f2⟩:=h;refine⟨fr,f1.mono fun k hk=>hv k be,?_⟩;have hj:=hv j (aA _);rw[hj];rcases f2 with q|q|q|⟨q1,q2,q3,q4⟩|⟨q1,q2,c,h,n,q3,q4⟩
 . exact .inl q
 . exact .inr (.inl q)
 . exact .inr (.inr (.inl q))
 . refine .inr (.inr (.inr (.inl ⟨q1,q2,q3,fun c hc h1 h2=>?_⟩)));simp only[ax,aS,bO]at hc;by_cases cl:c<=dx.length
   . rw[qj cl];refine q4 c cl (fun c' e' vP Bc=>h1 c' e' vP ?_) (fun c' e' vP Bc=>h2 c' e' vP ?_)
     . rw[bw (aF.1 Bc).1];exact Bc
     . rw[bw (aF.1 Bc).1];exact Bc
   . have rD:c=dx.length+1:=by omega
     subst rD;rw[xl];exact Cf reads iA j _ o fr _ q3 (h2 dx.length e be (by simp))
 . have hc:=(aF.1 q3).1;refine .inr (.inr (.inr (.inr ⟨q1,q2,c,h,n,by rw[bw hc];exact q3,?_⟩)));rw[qj be];exact q4
end
section
variable{val:Nat->V}{dx:List xk}{i:Nat}
theorem Nl{d:Dr}(hr:mI ops N)(f:oA P cf ops n0 h0 jY val dx i d)(hl:zA (lU ops i) d.last=true):
  ∀(c:Nat) (e:xk),dx[c]? =some e->dS (lU ops i) e.1=true:=by
 intro c e he;have hc:=(aF.1 he).1;rw[f.last]at hl;have hg:dx.getLast? =some (dx[dx.length-1]'(by omega)):=by
  rw[List.getLast?_eq_getElem?,ay]
 rw[hg]at hl;simp only[bh,zA]at hl;by_cases q:c=dx.length-1
 . subst q;rw[ay be]at he;cases he;exact hl
 . exact Es hr.yC i _ _ hl (f.chain (dx.length-1) c _ e be (ay be) he)
theorem Eu{d d':Dr}{o:Oper}{v:V}{h:Tr O}{n:Nat}(hr:mI ops N)(ho:ops[i]? =some o)(f:oA P cf ops n0 h0 jY val dx i d)
  (hw:iq ops o d.fr=some true) (Cg:qM o.op=true) (hl:zA (lU ops i) d.last=true) (ha:kB P n0 i (lU ops i) o d v h n=some d')
  (hm:o6 (ops.toList.take (i+1))=d.ee++[lU ops i])
  (run:(dy P o d.fr (gH n0 d.cU d.cur.1 d.cur.2 (lU ops i)) d.n=some (.val v h n)) \/
   ∃g args,dy P o d.fr (gH n0 d.cU d.cur.1 d.cur.2 (lU ops i)) d.n=some (.call g args)/\cf g args (gH n0 d.cU d.cur.1 d.cur.2 (lU ops i)) d.n=some (.ret v,h,n)):
  ∃iI uP,oA P cf ops n0 h0 jY iI uP (i+1) d':=by
 unfold kB at ha;split at ha
 . rename_i fr hp;split at ha
   . rename_i iA;obtain rfl:=ek ha
     let iI:Nat->V:=fun k=>if k=i then v else val k
     have HI:iI i=v:=by simp[iI]
     have hv:∀k,k<i->iI k=val k:=fun k hk=>by simp[iI,show k≠i by omega]
     refine⟨iI,dx++[(i,lU ops i,h,n)],?_⟩;have iQ:(dx++[(i,lU ops i,h,n)]).length=dx.length+1:=by simp
     refine⟨hm.symm,f.fr.step hr ho hv HI hp,?_,?_,?_,by simp,?_,fun x hx=>by have:=f.cU x hx;omega,f.one,fun c e q he hq=>?_,fun j q b hb hq=>(f.Bm j q b hb hq).mono fun k hk=>hv k (by have:=f.cU _ hb;simp at this;omega),?_,?_⟩
     . rw[iQ,xl]
     . rw[iQ,xl]
     . rw[iQ];simp only[s9];rw[cj be];simp only[Nat.sub_self,bF];rw[qj (aA _),AB _ (aA _),<- f.pC,f.cur]
     . intro c e he;by_cases q:c<dx.length
       . rw[bw q]at he;obtain⟨h1,h2⟩:=f.uN c e he;exact⟨be,h2⟩
       . have hc:=(aF.1 he).1;simp at hc;have:c=dx.length:=by omega
         subst this;simp at he;subst he;exact⟨by simp,o,ho,Cg,rfl⟩
     . by_cases q2:c<dx.length
       . rw[bw q2]at he;obtain⟨h1,_⟩:=f.uN c e he;obtain⟨xn,g1,g2⟩:=f.zM c e q he hq;exact⟨xn,g1.mono fun k hk=>hv k be,g2⟩
       . have hc:=(aF.1 he).1;simp at hc;have:c=dx.length:=by omega
         subst this;simp at he;subst he;simp only at hq;rw[ho]at hq;cases hq;exact⟨d.fr,f.fr.mono hv,hw⟩
     . intro c c' e e' WH he Bc;have hc:=(aF.1 he).1;simp at hc;have vP:c'<dx.length:=by omega
       rw[bw vP]at Bc;by_cases q:c<dx.length
       . rw[bw q]at he;exact f.chain c c' e e' WH he Bc
       . have:c=dx.length:=by omega
         subst this;simp at he;subst he;exact Nl hr f hl c' e' Bc
     . intro j q hj hq;by_cases c:j=i
       . subst c;rw[ho]at hq;cases hq;refine⟨d.fr,f.fr.mono hv,.inr (.inr (.inr (.inr ⟨hw,Cg,dx.length,h,n,by simp,?_⟩)))⟩;rw[qj (aA _),HI];have acG:=f.cur;have hn:=f.n;have e1:d.cur.1=(eC h0 (n0+ops.size) dx dx.length).1:=by rw[acG]
         have e2:d.cur.2=(eC h0 (n0+ops.size) dx dx.length).2.1:=by rw[acG]
         rw[e1,e2,hn]at run;exact run
       . exact(f.Yq j q be hq).effect (fun k hk=>hv k be) iA
   . cases ha
 . cases ha
theorem JX{d d':Dr}{o:Oper}(hr:mI ops N)(ho:ops[i]? =some o)(f:oA P cf ops n0 h0 jY val dx i d)
  (e:uy P cf ops n0 i o d=some (.inl d')):∃iI uP,oA P cf ops n0 h0 jY iI uP (i+1) d':=by
 have hi:i<ops.size:=(aQ.1 ho).1;have Bd:eL d.ee o.after.toList=lU ops i:=by rw[f.ee];unfold lU;rw[ho]
 have hm:o6 (ops.toList.take (i+1))=d.ee++[lU ops i]:=by
  rw[Er (by rw[bK];exact ho),Cb,<- f.ee,Bd]
 unfold uy at e;simp only[Bd]at e;have vQ:∀(v:V) (fr:Tr V) (kP:af) (xm:List (Nat×Nat×Oper×Tr V×V)),iT d.fr o.dst v=some fr->(∀x∈d.cU,x∈kP)->(∀x∈d.reads,x∈xm)->
   (∀j m x,j<=i->gH n0 kP m x (lU ops j)=gH n0 d.cU m x (lU ops j))->(∀x∈kP,x.1<i+1)->(∀j b b',(j,b)∈kP->(j,b')∈kP->b=b')->
   (∀iI,(∀k,k<i->iI k=val k)->iI i=v->∀b,(i,b)∈kP->rP P ops n0 jY iI i o b)->(∀x∈kP,x.1≠i->x∈d.cU)->
   (∀iI,(∀k,k<i->iI k=val k)->iI i=v->uM P cf ops n0 h0 jY iI kP xm dx i o)->
   ∃iI uP,oA P cf ops n0 h0 jY iI uP (i+1) { d with fr:=fr,ee:=d.ee++[lU ops i],cU:=kP,reads:=xm }:=by
  intro v fr kP xm hp ha Ys LI hai JH hal aif oS
  let iI:Nat->V:=fun k=>if k=i then v else val k
  have HI:iI i=v:=by simp[iI]
  have hv:∀k,k<i->iI k=val k:=fun k hk=>by simp[iI,show k≠i by omega]
  refine⟨iI,dx,⟨hm.symm,f.fr.step hr ho hv HI hp,f.cur,f.n,f.pC,f.last,fun c e he=>?_,hai,JH,fun c e q he hq=>?_,fun j q b hb hq=>?_,f.chain,fun j q hj hq=>?_⟩⟩
  . obtain⟨h1,h2⟩:=f.uN c e he;exact⟨be,h2⟩
  . obtain⟨h1,_⟩:=f.uN c e he;obtain⟨xn,g1,g2⟩:=f.zM c e q he hq;exact⟨xn,g1.mono fun k hk=>hv k be,g2⟩
  . by_cases c:j=i
    . subst c;rw[ho]at hq;cases hq;exact hal iI hv HI b hb
    . have FV:=aif _ hb c;exact(f.Bm j q b FV hq).mono fun k hk=>hv k (by have:=f.cU _ FV;simp at this;omega)
  . by_cases c:j=i
    . subst c;rw[ho]at hq;cases hq;exact oS iI hv HI
    . exact(f.Yq j q be hq).quiet (fun k hk=>hv k be) ha Ys fun m x=>LI j m x be
 have e1:d.cur.1=(eC h0 (n0+ops.size) dx dx.length).1:=by rw[f.cur]
 have e2:d.cur.2=(eC h0 (n0+ops.size) dx dx.length).2.1:=by rw[f.cur]
 split at e
 . rename_i hw;split at e
   . rename_i fr hp;simp only[an,Sum.inl.injEq]at e;subst e;exact vQ (.eo []) fr d.cU d.reads hp (fun _ h=>h) (fun _ h=>h) (fun _ _ _ _=>rfl) (fun x hx=>by have:=f.cU x hx;omega) f.one (fun _ _ _ b hb=>by have:=f.cU _ hb;simp at this) (fun _ hx _=>hx)
      fun iI hv HI=>⟨d.fr,f.fr.mono hv,.inl ⟨hw,HI⟩⟩
   . cases e
 . rename_i hw;split at e
   . rename_i Cg;split at e
     . rename_i hl;split at e
       . rename_i v h n hs;split at e
         . rename_i s' ha;simp only[an,Sum.inl.injEq]at e;subst e;exact Eu hr ho f hw Cg hl ha hm (.inl hs)
         . cases e
       . rename_i g args hs;split at e
         . rename_i v h n hc;split at e
           . rename_i s' ha;simp only[an,Sum.inl.injEq]at e;subst e;exact Eu hr ho f hw Cg hl ha hm (.inr ⟨g,args,hs,hc⟩)
           . cases e
         . split at e
           . cases e
           . cases e
         . cases e
       . cases e
     . cases e
   . rename_i Cg;have HJ:qM o.op=false:=by simpa using Cg
     split at e
     . rename_i v h k hs;split at e
       . rename_i fr hp;have hq:=quiet HJ hs;split at e
         . rename_i hk;have tY:=aD hk;subst tY;split at e
           . rename_i acH;simp only[an,Sum.inl.injEq]at e;subst e;obtain⟨u,h1,h2⟩:=HE acH hs;cases h1;exact vQ v fr d.cU d.reads hp (fun _ h=>h) (fun _ h=>h) (fun _ _ _ _=>rfl) (fun x hx=>by have:=f.cU x hx;omega) f.one (fun _ _ _ b hb=>by have:=f.cU _ hb;simp at this) (fun _ hx _=>hx)
              fun iI hv HI=>⟨d.fr,f.fr.mono hv,.inr (.inr (.inl ⟨hw,HJ,fun y=>by rw[HI];exact h2 y _⟩))⟩
           . split at e
             . rename_i pC;simp only[an,Sum.inl.injEq]at e;subst e;refine vQ v fr d.cU ((i,lU ops i,o,d.fr,v)::d.reads) hp (fun _ h=>h) (fun x hx=>by simp[hx]) (fun _ _ _ _=>rfl) (fun x hx=>by have:=f.cU x hx;omega) f.one (fun _ _ _ b hb=>by have:=f.cU _ hb;simp at this) (fun _ hx _=>hx)
                fun iI hv HI=>⟨d.fr,f.fr.mono hv,.inr (.inr (.inr (.inl ⟨hw,HJ,by simp[HI],fun c hc h1 _=>?_⟩)))⟩
               rw[HI];by_cases q:c=dx.length
               . subst q;rw[<- e1,<- e2];exact⟨h,hs⟩
               . rw[f.pC]at pC;exact Et dx.length (aA _) pC c be fun c' e' q1 _ q3=>h1 c' e' q1 q3
             . cases e
         . rename_i hk;split at e
           . rename_i b hb;split at e
             case isFalse=>cases e
             rename_i hwr;simp only[an,Sum.inl.injEq]at e;subst e;rcases hq with⟨u,h1,_⟩|⟨u,b',h1,h2,h3⟩
             . cases h1;exact absurd (cL _) hk
             . cases h2;rw[Tr.mS _ _ h1]at hb;cases hb;refine vQ v fr ((i,b)::d.cU) d.reads hp (fun x hx=>by simp[hx]) (fun _ h=>h) (fun j m x hj=>Nk (Yr (he:=hr.yC) hj)) (fun x hx=>?_) (fun j c c' hc vP=>?_) (fun iI hv HI c hc=>?_) (fun x hx fL=>?_)
                fun iI hv HI=>⟨d.fr,f.fr.mono hv,.inr (.inl ⟨hw,HJ,b,by simp,h1,fun y=>by rw[HI];exact h3 y⟩)⟩
               . rcases aE.1 hx with rfl|hx
                 . simp
                 . have:=f.cU x hx;omega
               . rcases aE.1 hc with q|q<;>rcases aE.1 vP with q'|q'
                 . cases q;cases q';rfl
                 . cases q;have:=f.cU _ q';simp at this
                 . cases q';have:=f.cU _ q;simp at this
                 . exact f.one j c c' q q'
               . rcases aE.1 hc with q|q
                 . cases q;exact⟨d.fr,f.fr.mono hv,hw,HJ,h1,hwr,fun y=>by rw[HI];exact h3 y⟩
                 . have:=f.cU _ q;simp at this
               . rcases aE.1 hx with q|q
                 . cases q;exact absurd rfl fL
                 . exact q
           . cases e
       . cases e
     . cases e
 . cases e
end
theorem JY(fr:Tr V)(h:Tr O):oA P cf ops n0 h fr (fun _=>.kA) [] 0 { fr:=fr,ee:=[],cur:=(0,h),pC:=[],last:=none,cU:=[],reads:=[],n:=n0+ops.size }:=by
 refine⟨by simp[o6],⟨fun i o t hi=>by omega,fun t _=>rfl⟩,rfl,rfl,rfl,rfl,fun c e he=>by simp at he,fun x hx=>by simp at hx,fun j b b' hb=>by simp at hb,fun c e o he=>by simp at he,fun j o b hb=>by simp at hb,fun c c' e e' _ he=>by simp at he,fun j o hj=>by omega⟩
theorem Ev(hr:mI ops N):∀(l:List Oper) (i:Nat) (d:Dr) (val:Nat->V) (dx:List xk) (r:Dr ⊕ (Tr V×V×Tr O×Nat)),l=ops.toList.drop i->oA P cf ops n0 h0 jY val dx i d->
  qN P cf ops n0 l i d=some r->
  match r with
  | .inl d'=>∃iI uP,oA P cf ops n0 h0 jY iI uP (max i ops.size) d'
  | .inr x=>∃j o d' iI uP,ops[j]? =some o/\oA P cf ops n0 h0 jY iI uP j d'/\uy P cf ops n0 j o d'=some (.inr x)
 | [],i,d,val,dx,r,hl,f,e=>by
   simp only[qN,an]at e;subst e;have hi:ops.size<=i:=by
    have:=aN List.length hl;simp at this;omega
   rw[Nat.max_eq_left hi];exact⟨val,dx,f⟩
 |o::l,i,d,val,dx,r,hl,f,e=>by
  have hi:i<ops.size:=by
   have:=aN List.length hl;simp at this;omega
  have ho:ops[i]? =some o:=by
   have:=aN (fun x=>x[0]?) hl;simp at this;exact this.symm
  have hl':l=ops.toList.drop (i+1):=by
   have:=aN List.tail hl;simpa using this
  simp only[qN]at e;split at e
  . rename_i s' hs;obtain⟨iI,uP,f'⟩:=JX hr ho f hs;have:=Ev hr l (i+1) s' iI uP r hl' f' e;cases r with
    |inl d'=>rw[show max (i+1) ops.size=max i ops.size by omega]at this;exact this
    |inr x=>exact this
  . rename_i x hx;cases r with
    |inl d'=>exact absurd e (hx d')
    |inr y=>exact⟨i,o,d,val,dx,ho,f,e⟩
end
theorem Good.ext{E:Env}{h h':Tr O}{w:World}(g:Good E h w)(e:∀k,h'.get k=h.get k):Good E h' w:=g.sub fun m o q=>by rw[<- e];exact q
theorem ij.ext{E E':Env}{h h' h2:Tr O}{w w':World}(u:ij E h w E' h' w')(e:∀k,h2.get k=h'.get k):ij E h w E' h2 w':=
 ⟨u.le,u.good.ext e,u.size,u.tape,u.os,u.output,u.keep,fun m b s hm q hb=>let⟨m0,s0,a1,a2,a3⟩:=u.sO m b s (by rw[<- e];exact hm) q hb;⟨m0,s0,a1,a2,fun c=>a3 (O8 (e m) c)⟩,u.DF⟩
theorem ij.frame{E E':Env}{h x y z:Tr O}{w w':World}(g:Good E h w)(hx:Sub x h)(u:ij E x w E' y w')
  (hz:∀k,z.get k=match y.get k with|some o=>some o|none=>if x.get k=none then h.get k else none):ij E h w E' z w':=by
 have rest:∀k o,h.get k=some o->x.get k=none->∃b s,E.ι k=some (b,s)/\E'.ι k=some (b,s)/\E'.β b=E.β b/\b<w.heap.size/\w'.heap[b]? =w.heap[b]?/\(∀m s',ew y m->E'.ι m≠some (b,s'))/\(o.wr=true->∀m s',y.get m≠none->E'.ι m≠some (b,s'))/\lO E w b s o:=by
  intro k o hk hxk;obtain⟨b,s,h1,h2⟩:=g.rel k o hk;have hb:=g.mO k b s h1;have fL:∀m,x.get m≠none->m≠k:=by intro m hm e;subst e;exact hm hxk
  have tO:∀m s',ew x m->E.ι m≠some (b,s'):=by
   intro m s' hm q;exact g.inj m k b s' s (fL m hm.live) (gm hx hm) (by rw[hk];simp) q h1
  have aij:o.wr=true->∀m s',x.get m≠none->E.ι m≠some (b,s'):=by
   intro ho m s' hm q;exact g.inj k m b s s' (fun e=>fL m hm e.symm) ⟨o,hk,ho⟩ (mU hx hm) h1 q
  refine⟨b,s,h1,(u.le.nm k b s h1).1,(u.le.nm k b s h1).2,hb,u.keep b hb tO,?_,?_,h2⟩
  . intro m s' hm q;obtain⟨m0,s0,a1,a2,a3⟩:=u.sO m b s' hm.live q hb;exact tO m0 s0 (a3 hm) a2
  . intro ho m s' hm q;obtain⟨m0,s0,a1,a2,a3⟩:=u.sO m b s' hm q hb;exact aij ho m0 s0 a1 a2
 have zc:∀k o,z.get k=some o->y.get k=some o\/(y.get k=none/\x.get k=none/\h.get k=some o):=by
  intro k o q;rw[hz]at q;split at q
  . rename_i o' hy;cases q;exact .inl hy
  . rename_i hy;split at q
    . rename_i ON;exact .inr ⟨hy,ON,q⟩
    . cases q
 have old:∀k o b s,h.get k=some o->o.wr=true->x.get k=none->E.ι k=some (b,s)->∀c,E'.φ b≠some c:=by
  intro k o b s hk ho hxk e c hc;rcases u.DF b c hc with q|q|⟨m,s',q1,q2⟩
  . exact(g.gI b c q).2 k s ⟨o,hk,ho⟩ e
  . have:=g.mO k b s e;omega
  . exact g.inj m k b s' s (fun q=>by subst q;exact q1.live hxk) (gm hx q1) (by rw[hk];simp) q2 e
 refine⟨u.le,⟨?_,?_,u.good.mO,u.good.jf,fun b c hc=>⟨(u.good.gI b c hc).1,fun m s hm e=>?_⟩⟩,u.size,u.tape,u.os,u.output,?_,?_,?_⟩
 case refine_3=>
  obtain⟨o,hm,ho⟩:=hm;rcases zc m o hm with ym|⟨ym,ON,hh⟩
  . exact(u.good.gI b c hc).2 m s ⟨o,ym,ho⟩ e
  . obtain⟨b',t,h1,h2,_⟩:=rest m o hh ON;rw[h2]at e;cases e;exact old m o b s hh ho ON h1 c hc
 case refine_6=>
  intro b c hc;rcases u.DF b c hc with q|q|⟨m,s,q1,q2⟩
  . exact .inl q
  . exact .inr (.inl q)
  . exact .inr (.inr ⟨m,s,gm hx q1,q2⟩)
 . intro m o hm;rcases zc m o hm with hy|⟨hy,ON,hm⟩
   . exact u.good.rel m o hy
   . obtain⟨b,s,h1,h2,h3,h4,h5,h6,h6',h7⟩:=rest m o hm ON;exact⟨b,s,h2,hU u.le h3 h5 h7⟩
 . intro m m' b s s' fL hm sP e e';obtain⟨o,hm,ho⟩:=hm;obtain⟨o',sP⟩:=bf.1 sP;rcases zc m o hm with ym|⟨ym,ON,hh⟩
   . rcases zc m' o' sP with ym'|⟨ym',Yt,hh'⟩
     . exact u.good.inj m m' b s s' fL ⟨o,ym,ho⟩ (by rw[ym'];simp) e e'
     . obtain⟨b',t,h1,h2,h3,h4,h5,h6,h6',h7⟩:=rest m' o' hh' Yt;rw[h2]at e';cases e';exact h6 m s ⟨o,ym,ho⟩ e
   . obtain⟨b',t,h1,h2,h3,h4,h5,h6,h6',h7⟩:=rest m o hh ON;rw[h2]at e;cases e;rcases zc m' o' sP with ym'|⟨ym',Yt,hh'⟩
     . exact h6' ho m' s' (by rw[ym'];simp) e'
     . obtain⟨b2,t2,k1,k2,_⟩:=rest m' o' hh' Yt;rw[k2]at e';cases e';exact g.inj m m' _ _ _ fL ⟨o,hh,ho⟩ (by rw[hh'];simp) h1 k1
 . intro b hb hn;exact u.keep b hb fun m s hm=>hn m s (gm hx hm)
 . intro m b s hm e hb;obtain⟨o,hm⟩:=bf.1 hm;have hw:ew z m->o.wr=true:=by rintro⟨o2,q1,q2⟩;rw[hm]at q1;cases q1;exact q2
   rcases zc m o hm with ym|⟨ym,ON,hh⟩
   . obtain⟨m0,s0,a1,a2,a3⟩:=u.sO m b s (by rw[ym];simp) e hb;exact⟨m0,s0,mU hx a1,a2,fun q=>gm hx (a3 ⟨o,ym,hw q⟩)⟩
   . obtain⟨b',t,h1,h2,_⟩:=rest m o hh ON;rw[h2]at e;cases e;exact⟨m,_,by rw[hh];simp,h1,fun q=>⟨o,hh,hw q⟩⟩
theorem Ch{n0:Nat}{m:Nat}{x:Tr O}{gQ k:Nat}:∀(l:af),(∀y∈l,n0+y.1<fI)->
  (gH n0 l m x gQ).get k=match l.find? (fun y=>Nat.beq (n0+y.1) k&&dS gQ y.1&& !dS m y.1)with|some y=>some y.2|none=>x.get k
 | [],_=>rfl
 |(i,o)::l,ht=>by
  have ih:=Ch (k:=k) (m:=m) (x:=x) (gQ:=gQ) l fun y hy=>ht y (by simp[hy]);simp only[gH];by_cases hb:(dS gQ i&& !dS m i)=true
  . rw[aG hb,Tr.eO _ _ _ (ht (i,o) (by simp))];by_cases q:k=n0+i
    . subst q;rw[aG rfl,List.find?_cons_of_pos (by simp only[cL,Bool.true_and];exact hb)]
    . rw[aI q,ih,List.find?_cons_of_neg];have:Nat.beq (n0+i) k=false:=by
       cases hh:Nat.beq (n0+i) k with
       |false=>rfl
       |true=>exact absurd (aD hh).symm q
      simp[this]
  . rw[aI hb,ih,List.find?_cons_of_neg];intro q;simp only[Bool.and_assoc]at q;rw[aC]at q;exact hb q.2
section
variable{n0 m:Nat}{x:Tr O}
theorem jB{gQ i:Nat}{b:O}{l:af}(ht:∀y∈l,n0+y.1<fI)(one:∀(j:Nat) (b b':O),(j,b)∈l->(j,b')∈l->b=b')(hi:(i,b)∈l)
  (ha:dS gQ i=true) (hm:dS m i=false):(gH n0 l m x gQ).get (n0+i)=some b:=by
 rw[Ch l ht];cases hf:l.find? (fun y=>Nat.beq (n0+y.1) (n0+i)&&dS gQ y.1&& !dS m y.1)with
 |none=>
  have:=List.find?_eq_none.1 hf (i,b) hi;simp[cL,ha,hm]at this
 |some y=>
  have h1:=List.mem_of_find?_eq_some hf;have h2:=List.find?_some hf;simp only[aC]at h2;have h3:=aD h2.1.1;have h4:y.1=i:=by omega
  obtain⟨y1,y2⟩:=y;simp only at h4;subst h4;simp only[one y1 y2 b h1 hi]
theorem qm{gQ k:Nat}{l:af}(ht:∀y∈l,n0+y.1<fI)(h:∀i b,(i,b)∈l->dS gQ i=true->dS m i=false->k≠n0+i):(gH n0 l m x gQ).get k=x.get k:=by
 rw[Ch l ht];cases hf:l.find? (fun y=>Nat.beq (n0+y.1) k&&dS gQ y.1&& !dS m y.1)with
 |none=>rfl
 |some y=>
  have h1:=List.mem_of_find?_eq_some hf;have h2:=List.find?_some hf;simp only[aC,Bool.not_eq_true']at h2;exact absurd (aD h2.1.1).symm (h y.1 y.2 h1 h2.1.2 h2.2)
theorem jh{gQ:Nat}{l:af}(ht:∀y∈l,n0+y.1<fI)(one:∀(j:Nat) (b b':O),(j,b)∈l->(j,b')∈l->b=b')(k:Nat):
  (∃i b,(i,b)∈l/\dS gQ i=true/\dS m i=false/\k=n0+i/\(gH n0 l m x gQ).get k=some b) \/
  ((∀i b,(i,b)∈l->dS gQ i=true->dS m i=false->k≠n0+i)/\(gH n0 l m x gQ).get k=x.get k):=by
 by_cases h:∃i b,(i,b)∈l/\dS gQ i=true/\dS m i=false/\k=n0+i
 . obtain⟨i,b,h1,h2,h3,rfl⟩:=h;exact .inl ⟨i,b,h1,h2,h3,rfl,jB ht one h1 h2 h3⟩
 . have h':∀i b,(i,b)∈l->dS gQ i=true->dS m i=false->k≠n0+i:=fun i b h1 h2 h3 q=>h ⟨i,b,h1,h2,h3,q⟩;exact .inr ⟨h',qm ht h'⟩
end
def Nn(E:Env):X->Exit->Prop
 | .normal,.normal=>True
 | .exit i,.exit j=>i=j
 | .ret,.ret=>True
 | .panic v,.panic chain=>∃v',dz E v v'/\chain=[{ v:=v',recovered:=false }]
 |_,_=>False
section
variable{P:Program}{cf:fJ}{ops:Array Oper}{n0 N ld:Nat}{h0:Tr O}{jY:Tr V}{val:Nat->V}{dx:List xk}{d:Dr}{E0:Env}{w0:World}{Be:List Deferred}
structure Inv(ops:Array Oper)(n0 N ld:Nat)(h0:Tr O)(jY:Tr V)(val:Nat->V)(dx:List xk)(cU:af)(E0:Env)(w0:World)(Be:List Deferred)
  (S:Nat->Bool) (ms J:Nat) (E:Env) (a:Act) (w:World):Prop where
 bits:∀i,dS ms i=S i
 TE:∀i,S i=true->i<ld
 closed:∀(j:Nat) (o:Oper),S j=true->ops[j]? =some o->∀e∈o.after,Region.binds .any e=true->S e.on=true
 FW:∀(c:Nat) (e:xk),dx[c]? =some e->(S e.1=true↔c<J)
 Jle:J<=dx.length
 f1:∀(j:Nat) (o:Oper) (t:Nat),S j=true->ops[j]? =some o->o.dst=some t->∃v',a.tmps[t]? =some v'/\dz E (val j) v'
 f2:∀(t:Nat) (v:V),jY.get t=some v->(∀(j:Nat) (o:Oper),S j=true->ops[j]? =some o->o.dst≠some t)->∃v',a.tmps[t]? =some v'/\dz E v v'
 qi:ij E0 h0 w0 E (gH n0 cU (eC h0 (n0+ops.size) dx J).1 (eC h0 (n0+ops.size) dx J).2.1 ms) w
 old:∀k,k<n0->E.ι k=E0.ι k
 nW:∀k p,E.ι k=some p->k<n0\/(∃i b,(i,b)∈cU/\S i=true/\k=n0+i)\/(n0+ops.size<=k/\k<(eC h0 (n0+ops.size) dx J).2.2)
 free:∀i,i<ops.size->dS (eC h0 (n0+ops.size) dx J).1 i=false->(eC h0 (n0+ops.size) dx J).2.1.get (n0+i)=none
 yE:n0+ops.size<=(eC h0 (n0+ops.size) dx J).2.2
 size:a.tmps.size=N
 gu:a.defers=Be
theorem Inv.gQ(hr:mI ops N){cU:af}{S:Nat->Bool}{ms J:Nat}{E:Env}{a:Act}{w:World}(I:Inv ops n0 N ld h0 jY val dx cU E0 w0 Be S ms J E a w){j k:Nat}(hj:S j=true)(h:dS (lU ops j) k=true):S k=true:=
 Cd hr.yC (S:=fun i=>S i=true) (fun j o hs ho e he hb=>I.closed j o hs ho e he hb) j k hj h
theorem vR(hr:mI ops N){S:Nat->Bool}(hS:∀(j:Nat) (o:Oper),S j=true->ops[j]? =some o->∀e∈o.after,Region.binds .any e=true->S e.on=true){j k:Nat}{o:Oper}(ho:ops[j]? =some o)
  (hd:∀e∈o.after,Region.binds .any e=true->S e.on=true) (h:dS (lU ops j) k=true):S k=true:=by
 obtain⟨e,h1,h2,h3⟩:=(yB hr.yC ho).1 h;rcases h3 with rfl|h3
 . exact hd e h1 h2
 . exact Cd hr.yC (S:=fun i=>S i=true) hS e.on k (hd e h1 h2) h3
theorem Inv.acK(hr:mI ops N)(f:oA P cf ops n0 h0 jY val dx ld d){S:Nat->Bool}{ms J:Nat}{E:Env}{a:Act}{w:World}
  (I:Inv ops n0 N ld h0 jY val dx d.cU E0 w0 Be S ms J E a w) {i:Nat} (h:dS (eC h0 (n0+ops.size) dx J).1 i=true):S i=true:=by
 cases J with
 |zero=>simp[eC,jZ]at h
 |succ c=>
  have hc:c<dx.length:=by have:=I.Jle;omega
  have he:dx[c]? =some dx[c]:=ay hc;simp only[eC,he]at h;obtain⟨_,o,_,_,h3⟩:=f.uN c _ he;rw[h3]at h;exact I.gQ hr ((I.FW c _ he).2 be) h
theorem Inv.use(hr:mI ops N){cU:af}{S:Nat->Bool}{ms J:Nat}{E:Env}{a:Act}{w:World}(I:Inv ops n0 N ld h0 jY val dx cU E0 w0 Be S ms J E a w)
  {j:Nat} {o:Oper} (ho:ops[j]? =some o) (hj:S j=false) (hd:∀e∈o.after,Region.binds .any e=true->S e.on=true) {fr:Tr V} (hf:zL ops jY val j fr) {t:Nat} (ht:t∈uz ops o) {v:V} (hv:fr.get t=some v):
  ∃v',a.tmps[t]? =some v'/\dz E v v':=by
 by_cases h:∃i q,i<j/\ops[i]? =some q/\q.dst=some t
 . obtain⟨i,q,h1,h2,h3⟩:=h;have hu:=hr.use i j q o t h2 ho be h3 ht;rw[aG h1]at hu;have hi:=vR hr I.closed ho hd hu;have:=hf.new i q t h1 h2 h3;rw[this]at hv;cases hv;exact I.f1 i q t hi h2 h3
 . have oy:=hf.old t fun i q hi hq hd=>h ⟨i,q,hi,hq,hd⟩;rw[oy]at hv;refine I.f2 t v hv fun i q hi hq S7=>?_;have fL:i≠j:=by intro e;subst e;rw[hj]at hi;cases hi
   have hu:=hr.use i j q o t hq ho fL S7 ht;split at hu
   . rename_i fE;exact h ⟨i,q,fE,hq,S7⟩
   . have:=I.gQ hr hi hu;rw[hj]at this;cases this
theorem Inv.ux(hr:mI ops N){cU:af}{S:Nat->Bool}{ms J:Nat}{E:Env}{a:Act}{w:World}(I:Inv ops n0 N ld h0 jY val dx cU E0 w0 Be S ms J E a w)
  {j:Nat} {o:Oper} (ho:ops[j]? =some o) (hj:S j=false) (hd:∀e∈o.after,Region.binds .any e=true->S e.on=true) {fr:Tr V} (hf:zL ops jY val j fr):∀x∈o.op.operands,mB E fr a.eval x:=by
 intro x hx v hv;cases x with
 |tmp t=>
  have ht:t∈uz ops o:=by
   unfold uz;refine cI _ (List.mem_filterMap.2 ⟨.tmp t,by simpa using hx,rfl⟩)
  obtain⟨v',h1,h2⟩:=I.use hr ho hj hd hf ht hv;simp only[Act.eval,b7,h1];exact h2
 |const c=>exact zD hv
 |func f=>simp only[iG,an]at hv;subst hv;exact⟨_,[],[],rfl,rfl,rfl,rfl⟩
 |global g=>exact Hf I.qi.good.jf hv
theorem Inv.wanted(hr:mI ops N){cU:af}{S:Nat->Bool}{ms J:Nat}{E:Env}{a:Act}{w:World}(I:Inv ops n0 N ld h0 jY val dx cU E0 w0 Be S ms J E a w)
  {j:Nat} {o:Oper} (ho:ops[j]? =some o) (hj:S j=false) (hd:∀e∈o.after,Region.binds .any e=true->S e.on=true) {fr:Tr V} (hf:zL ops jY val j fr) {b:Bool} (e:iq ops o fr=some b):
  Region.wanted o (yielded ops a.tmps)=b:=by
 refine xh (E:=E) (fun g Jw q t hg hq hdq v hv=>?_) e;have ht:t∈uz ops o:=by
  unfold uz;refine bZ _ ?_;simp only[hg,hq,hdq];simp
 exact I.use hr ho hj hd hf ht hv
theorem Inv.frame(hr:mI ops N){cU:af}{S:Nat->Bool}{ms J:Nat}{E E':Env}{a:Act}{w:World}(I:Inv ops n0 N ld h0 jY val dx cU E0 w0 Be S ms J E a w)
  {j:Nat} {o:Oper} (ho:ops[j]? =some o) (ku:E.le E') {v':Value} (hv:dz E' (val j) v'):
  (∀(k:Nat) (q:Oper) (t:Nat),(S k||decide (k=j))=true->ops[k]? =some q->q.dst=some t->∃v2,(a.put o.dst v').tmps[t]? =some v2/\dz E' (val k) v2)/\
  (∀(t:Nat) (v:V),jY.get t=some v->(∀(k:Nat) (q:Oper),(S k||decide (k=j))=true->ops[k]? =some q->q.dst≠some t)->∃v2,(a.put o.dst v').tmps[t]? =some v2/\dz E' v v2):=by
 have tV:nc a.tmps.size o.dst:=by rw[I.size];exact hr.dst j o ho
 refine⟨fun k q t hk hq ht=>?_,fun t v Yu ht=>?_⟩
 . by_cases c:k=j
   . subst c;rw[ho]at hq;cases hq;have:=tV t ht;exact⟨v',by simp[Act.put,ht,this],hv⟩
   . have tY:S k=true:=by simpa[c]using hk
     obtain⟨v2,h1,h2⟩:=I.f1 k q t tY hq ht;refine⟨v2,?_,je ku _ _ h2⟩;cases hd:o.dst with
     |none=>exact h1
     |some u=>
      have fL:u≠t:=by intro e;subst e;exact c (hr.one k j q o u hq ho ht hd)
      simp[Act.put,fL,h1]
 . obtain⟨v2,h1,h2⟩:=I.f2 t v Yu fun k q hk hq=>ht k q (by simp[hk]) hq;refine⟨v2,?_,je ku _ _ h2⟩;cases hd:o.dst with
   |none=>exact h1
   |some u=>
    have fL:u≠t:=by intro e;subst e;exact ht j o (by simp) ho hd
    simp[Act.put,fL,h1]
end
end Go.Eng
