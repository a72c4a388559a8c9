/- Lemmas of the engine. No conditions. -/
import Derived.Test.YtmjggdmekboefaaGreatJointW00
import Derived.Lib.UnsafeStr
import Derived.RangeFuncSeq
import Derived.TacticsIn
set_option linter.unusedVariables false
set_option linter.unusedSimpArgs false
set_option linter.unusedSectionVars false
namespace Go.Eng
open Go
section
variable{P:Program}{E:Env}{h:I es}{n:Nat}{w:World}
theorem Cz(s:aa):eK E (Cl s) (s.map fun b=>Value.int .u8 b.toNat):=by
 refine jZ (by simp[Cl]) fun i v q=>?_;simp only[Cl,bD,cU]at q ⊢;obtain⟨b,q1,rfl⟩:=q;exact⟨_,⟨b,q1,rfl⟩,rfl⟩
theorem CA(s:aa):(p8 s).map (V.int .u8)=Cl s:=by simp[p8,Cl]
theorem CB{W:List Int}{o len:Nat}{vs:List Value}(r:eK E (((W.map (V.int .u8)).drop o).take len) vs):vs=((W.drop o).take len).map (Value.int .u8):=by
 rw[<- List.map_drop,<- dh]at r;revert r;generalize (W.drop o).take len=l;intro r
 induction l generalizing vs with
 |nil=>exact r
 |cons x l ih=>
  obtain⟨y,ys,r0,rs,rfl⟩:=r;simp only[eH]at r0;subst r0;rw[ih rs];rfl
theorem Kk{m b s:Nat}{t:aa}(g:Good E h w)(hi:E.ι m=some (b,s))(e:uN (h.get m)=some t):∃c el fz xs,w.heap[b]? =some (.cells c el fz)/\s=0/\nQ xs=t/\∀(j:Nat) (x:Int),xs[j]? =some x->c[j]? =some (.int .u8 x):=by
 unfold uN at e;split at e
 . rename_i el AM t' L;cases e;obtain⟨b',T,BB,c,fz,xs,h1,C,_,_,h3,h4⟩:=g.rel m _ L;rw[hi]at BB;cases BB;exact⟨c,el,fz,xs,h1,C,h3,h4⟩
 . cases e
theorem Nr{m b s:Nat}{W:List Int}(g:Good E h w)(hi:E.ι m=some (b,s))(e:AN (h.get m)=some W):∃c el fz,w.heap[b]? =some (.cells c el fz)/\mj E s (W.map (.int .u8)) c:=by
 unfold AN at e;split at e
 . rename_i pP L;cases e;obtain⟨b',T,BB,c,el,fz,h1,_,_,C⟩:=g.rel m _ L;rw[hi]at BB;cases BB;exact⟨c,el,fz,h1,C⟩
 . rename_i pP L;cases e;obtain⟨b',T,BB,c,el,fz,h1,_,C⟩:=g.rel m _ L;rw[hi]at BB;cases BB;exact⟨c,el,fz,h1,nU.2 C⟩
 . cases e
theorem CC:∀(bs:ag) (s:aa) (bs':List Value),qM bs=some s->eK E bs bs'->
  ∃ns:List Int,bs'=ns.map (Value.int .u8)/\s=ns.map fun n=>UInt8.ofNat n.toNat
 | [],s,bs',e,r=>by
   simp only[qM,aq]at e;subst e;simp only[eK]at r;subst r;exact⟨[],rfl,rfl⟩
 |x::xs,s,bs',e,r=>by
  obtain⟨y,ys,rx,rs,rfl⟩:=r;cases x with
  |int k m=>
   cases k<;>simp only[qM]at e<;>first|(cases e;done)|skip
   cases K:qM xs with
   |none=>simp[K]at e
   |some t=>
    simp only[K,aq]at e;subst e;simp only[eH]at rx;subst rx;obtain⟨ns,h1,C⟩:=CC xs t ys K rs;exact⟨m::ns,by simp[h1],by simp[C]⟩
  |_=>simp[qM]at e
theorem tn:∀(ns:List Int) (r:ByteArray),ns.foldl (fun r n=>r.push (UInt8.ofNat n.toNat)) r=⟨r.data++(ns.map fun n=>UInt8.ofNat n.toNat).toArray⟩
 | [],r=>by simp
 |n::ns,r=>by
  simp only[List.foldl_cons];rw[tn ns];simp[ByteArray.push]
theorem Kl{L4 dst:TypeId}{x:V}{x':Value}{r:iX}(g:Good E h w)(hn:E.ι n=none)(rx:eH E x x')(e:o9 P L4 dst x h n=some r):
  ku P E h n w (do pure (.value (<- convert L4 dst x'))) r:=by
 unfold o9 at e;split at e
 . rename_i d k k' m h1 C;obtain rfl:=eZ e;simp only[eH]at rx;subst rx;refine eS g (v':=.int k (k.wrap m)) ?_ rfl;simp[convert,eE h1,eE C,Conv.intToInt]
 . rename_i d s h1 C;obtain rfl:=eZ e;simp only[eH]at rx;subst rx;refine eS g (v':=.string ⟨s.toArray⟩) ?_ rfl;simp[convert,eE h1,eE C]
 . rename_i d k m h1 C;obtain rfl:=eZ e;simp only[eH]at rx;subst rx;refine eS g (v':=.string (Utf8.encode m)) ?_ (by show _=_;unfold iE;simp);simp[convert,eE h1,eE C,Conv.intToString]
 . rename_i el s h1 C;simp only[eH]at rx;subst rx;split at e
   . rename_i hu;cases ho:newObj h n (.own .u8 (p8 s))with
     |none=>simp[ho]at e
     |some p=>
      obtain⟨h',n'⟩:=p;simp only[ho,aq]at e;subst e;have nc:(⟨s.toArray⟩:ByteArray).size=s.length:=by show s.toArray.size=_;simp
      have gF:=run_bytes_of_string w L4 dst el ⟨s.toArray⟩ h1 C hu;rw[nc]at gF;have oG:s.length<=grownCap w s.length 0 el:=by simp only[grownCap,Question.cut];omega
      have A:(bytesRow ⟨s.toArray⟩ (grownCap w s.length 0 el)).size=grownCap w s.length 0 el:=by simp[bytesRow,nc];omega
      refine HX (r:=.is .u8 (p8 s)) (w1:=w.drew) (c:=bytesRow ⟨s.toArray⟩ (grownCap w s.length 0 el)) (el:=el) (fz:=((bytesRow ⟨s.toArray⟩ (grownCap w s.length 0 el)).size,(bytesRow ⟨s.toArray⟩ (grownCap w s.length 0 el)).size+1)) (v':=.slice (some ⟨w.heap.size,0,none⟩) s.length (grownCap w s.length 0 el)) g hn trivial ho rfl rfl rfl rfl ?_ ?_ ?_ ?_
      . intro i hi q;simp at q;omega
      . simp only[Sem.run_bind,gF,Result.andThen_ok,Sem.run_pure]
      . intro i v q;obtain⟨v',q1,q2⟩:=iq (Cz (E:=E) s) i v (by rw[<- CA];exact q);refine⟨v',?_,q2⟩;simp only[bytesRow,bI];rw[cP (by simpa using (aS.1 q1).1)];simpa using q1
      . refine⟨w.heap.size,0,0,grownCap w s.length 0 el,Env.gl,fun _=>rfl,aK _,oG,?_,rfl⟩;simp[Env.put,A]
   . cases e
 . rename_i el f cs h1 C;have K:∃a kg,x'= .slice a 0 kg:=by obtain⟨a,kg,_,K,_⟩:=rx.1;exact⟨a,kg,K⟩
   obtain⟨a,kg,rfl⟩:=K;split at e
   . rename_i hu;obtain rfl:=eZ e;refine eS g (v':=.string .empty) ?_ rfl;cases a<;>simp[convert,eE h1,eE C,eE hu,Conv.bytesToString,loadCells,loadCellsFrom]
   . cases e
 . rename_i el _ _ _ h1 C;obtain⟨_,_,rfl⟩:=rx;split at e
   . rename_i hu;obtain rfl:=eZ e;refine eS g (v':=.string .empty) ?_ rfl;simp[convert,eE h1,eE C,eE hu,Conv.bytesToString]
   . cases e
 . rename_i el m o len kg lz h1 C;split at e
   . rename_i hu;split at e
     . rename_i XR;subst XR;obtain⟨b,sh,o',gZ,hi,c1,c2,c3,c4,rfl⟩:=rx;split at e
       . rename_i s0 L;split at e
         . rename_i kZ;obtain rfl:=eZ e;obtain⟨c,el',fz,xs,si,hsh,CD,EJ⟩:=Kk g hi L;subst hsh;refine eS g (v':=.string ⟨((s0.drop o).take len).toArray⟩) ?_ rfl;rcases cW len with D1|XS
           . subst D1;simp[convert,eE h1,eE C,eE hu,Conv.bytesToString,loadCells,loadCellsFrom];rfl
           . have kZ:o+len<=s0.length:=kZ.resolve_left S;have Km:xs.length=s0.length:=by rw[<- CD];simp[nQ]
             have FV:o'=0+o:=c1 S;subst FV;have acQ:mj E 0 (xs.map (.int .u8)) c:=nU.2 (by simpa using EJ);have U:=nX acQ (k:=o+len) S (by simp;omega);have Wn:=run_loadCells (P:=P) (o:=0+o) (n:=len) si S;rw[CB (nY acQ (by simp;omega) S)]at Wn;rw[Sem.run_bind,run_convert_bytes_string w L4 dst el _ len gZ h1 hu C,run_bytesToString w _ len gZ _ Wn,tn];simp[<- CD,nQ,dh,List.map_drop]
         . cases e
       . split at e
         . rename_i W L;split at e
           . rename_i kZ;obtain rfl:=eZ e;obtain⟨c,el',fz,si,EJ⟩:=Nr g hi L;refine eS g (v':=.string ⟨(nQ ((W.drop o).take len)).toArray⟩) ?_ rfl;rcases cW len with D1|XS
             . subst D1;simp[convert,eE h1,eE C,eE hu,Conv.bytesToString,loadCells,loadCellsFrom,nQ];rfl
             . have kZ:o+len<=W.length:=kZ.resolve_left S;have FV:o'=sh+o:=c1 S;subst FV;have U:=nX EJ (k:=o+len) S (by simpa using kZ);have Wn:=run_loadCells (P:=P) (o:=sh+o) (n:=len) si S;rw[CB (nY EJ (by simpa using kZ) S)]at Wn;rw[Sem.run_bind,run_convert_bytes_string w L4 dst el _ len gZ h1 hu C,run_bytesToString w _ len gZ _ Wn,tn];simp[nQ]
           . cases e
         . split at e
           . obtain rfl:=eZ e;refine eS g (v':=.string .empty) ?_ rfl;simp[convert,eE h1,eE C,eE hu,Conv.bytesToString,loadCells,loadCellsFrom]
           . rename_i D1;split at e
             . rename_i cs L;cases A:cut cs o len with
               |none=>simp[A]at e
               |some bs=>
                simp only[A]at e;cases ht:qM bs with
                |none=>simp[ht]at e
                |some s=>
                 simp only[ht,aq]at e;subst e;obtain⟨kZ,rfl⟩:=zP A;have XS:0<len:=by
                  cases len with
                  |zero=>exact absurd rfl D1
                  |succ _=>omega
                 have FV:o'=sh+o:=c1 S;subst FV;obtain⟨b',sh',BB,c,el',fz,si,_,_,EJ⟩:=g.rel m _ L;rw[hi]at BB;cases BB;have U:=nX EJ (k:=o+len) S kZ;have Wn:=run_loadCells (P:=P) (o:=sh+o) (n:=len) si S;obtain⟨ns,n1,n2⟩:=CC _ s _ ht (nY EJ kZ S);rw[n1]at Wn;refine eS g (v':=.string ⟨s.toArray⟩) ?_ rfl;rw[Sem.run_bind,run_convert_bytes_string w L4 dst el _ len gZ h1 hu C,run_bytesToString w _ len gZ ns Wn,tn,<- n2];simp
             . cases e
     . cases e
   . cases e
 . cases e
theorem EL{t:TypeId}{i:TypeInfo}{z:V}(hi:P.info? t=some i)(hz:zeroOf P t=some z):∃z',i.zero=some z'/\(zeroValue t).run P w= .ok z' w/\eH E z z':=by
 obtain⟨z',h1,C,i',h3,h4⟩:=lO (P:=P) (w:=w) E hz;rw[hi]at h3;cases h3;exact⟨z',h4,h1,C⟩
theorem H6(k:IntKind)(W:List Int):∀n,(TI W n).map (V.int k)=iJ (W.map (V.int k)) n
 |0=>rfl
 |n+1=>by rw[TI,iJ,bL,H6 k W n]
theorem Pv{z z':ag}(h:wk z z'):∀n,wk (iJ z n) (iJ z' n)
 |0=>jr _
 |n+1=>zK h (Pv h n)
theorem H7(ds:ai):∀n,D.gk (FE ds n)=iJ (D.gk ds) n
 |0=>rfl
 |n+1=>by rw[FE,iJ,<- H7 ds n,D.gy,D.gy,D.gy,bL]
theorem L7{ds:ai}(h:∀x∈ds,x.scalar=true):∀n,∀x∈FE ds n,x.scalar=true
 |0,x,K=>by simp[FE]at K
 |n+1,x,K=>(bj.1 K).elim (h x) (L7 h n x)
theorem CE(z:ag)(n:Nat):wk (iJ z n) (vG z n).kx/\(vG z n).sc:=by
 have key:∀z:ag,wk (iJ z n) (match iQ z with|some ds=>Row.ds (FE ds n)|none=>Row.vs (iJ z n)).kx/\(match iQ z with|some ds=>Row.ds (FE ds n)|none=>Row.vs (iJ z n)).sc:=by
  intro z;split
  . rename_i ds h;refine⟨?_,L7 (nW h) n⟩;simp only[Row.kx,H7];exact Pv (x8 h) n
  . exact⟨jr _,trivial⟩
 unfold vG;split
 . rename_i k x r;split
   . rename_i W h;refine⟨?_,trivial⟩;rw[rV h];simp only[Row.kx,H6];exact jr _
   . exact key _
 . exact key _
theorem FW{t:TypeId}{l c:V}{l' c':Value}{r:iX}(g:Good E h w)(hn:E.ι n=none)(rl:eH E l l')(rc:eH E c c')(e:nR P t l c h n=some r):
  ku P E h n w (do pure (.value (<- Instr.makeSlice t l' c'))) r:=by
 unfold nR at e;split at e
 . rename_i el k l k' c he;simp only[eH]at rl rc;subst rl;subst rc;split at e
   . rename_i i z hi hz;simp only at e;split at e
     . rename_i hq;obtain⟨q1,q2,q3,q4,q5⟩:=hq;cases ho:newObj h n (vG z.cells (IntKind.i64.wrap c).toNat).EE with
       |none=>simp[ho]at e
       |some p=>
        obtain⟨h',n'⟩:=p;simp only[ho,aq]at e;subst e;obtain⟨z',D2,BC,FX⟩:=EL (P:=P) (E:=E) (w:=w) hi hz;have hzc:=jb FX;have Pp:=Cx hzc S (IntKind.i64.wrap c).toNat;rw[q2]at Pp;generalize hC:(IntKind.i64.wrap c)=h2 at *;generalize hL:(IntKind.i64.wrap l)=hm at *;have hu:=HZ he;have nc:(sizeOf el).run P w= .ok i.size w:=by simp[sizeOf,typeInfo,hi]
        refine tg (w1:=w) (c:=(Array.range (h2.toNat*i.size)).map (z'.cells[·%z'.cells.size]!)) (el:=el) (v':=.slice (some ⟨w.heap.size,0,none⟩) hm.toNat h2.toNat) g hn (CE _ _).2 ho rfl rfl rfl rfl ?_ (by refine x9 (CE _ _).1 ?_;exact ox Pp) ?_
        . have TO:¬((i.bytes:Int)*h2>2^48):=by omega
          simp only[Instr.makeSlice,Sem.run_bind,eE hu,Result.andThen_ok,asInt,asIntOf,Sem.run_pure,typeInfo,run_program,hi,hC,hL];rw[aD (by simp;omega)];simp only[Sem.run_bind,run_askRoom,Result.andThen_ok,nc,Sem.run_ite,Sem.run_pure,BC];by_cases h0:h2.toNat*i.size=0
          . rw[aF h0];have e0:∀f:Nat->Value,Array.map f (Array.range 0)=#[]:=fun f=>by apply Array.ext' ;simp
            simp[h0,newRow,e0]
          . rw[aD h0];simp[newRow]
        . refine⟨w.heap.size,0,0,h2.toNat,Env.gl,fun _=>rfl,S,aK _,?_,rfl⟩;simp[Env.put]
     . cases e
   . cases e
 . cases e
theorem H8{size k:Nat}{x:V}{new:Row}{x':Value}(g:Good E h w)(r:eH E x x')(e:jT h size x=some (k,new)):
  (∀w1:World,(Builtin.lenOf x').run P w1= .ok k w1)/\new.kx.length=k*size/\new.sc/\
   ∃kL:Array Value,(∀w1:World,w1.heap=w.heap->(Builtin.firstCells size k x').run P w1= .ok kL w1)/\eK E new.kx kL.toList:=by
 unfold jT at e;split at e
 . rename_i len _ _;split at e
   . rename_i hl;obtain⟨rfl,rfl⟩:=gr e;obtain⟨_,_,rfl⟩:=r;exact⟨fun _=>rfl,by simp[Row.kx],trivial,#[],fun _ _=>rfl,by simp[eK,Row.kx]⟩
   . cases e
 . rename_i m o len kg lz;split at e
   . rename_i XR;subst XR;obtain⟨b,sh,o',gZ,hi,c1,c2,c3,c4,rfl⟩:=r;split at e
     . obtain⟨rfl,rfl⟩:=gr e;refine⟨fun _=>rfl,by simp[Row.kx],trivial,#[],fun _ _=>?_,by simp[eK,Row.kx]⟩;simp[Builtin.firstCells,loadCells,loadCellsFrom]
     . rename_i D1;split at e
       . rename_i ob L;split at e
         . rename_i rw0 CF;cases ug:rw0.cut o (len*lz)with
           |none=>simp[ug]at e
           |some x=>
            simp only[ug,aq,aB]at e;obtain⟨rfl,rfl⟩:=e;obtain⟨kZ,K⟩:=zP (Row.FK ug);have XS:0<len:=by
             cases len with
             |zero=>exact absurd rfl D1
             |succ _=>omega
            have FV:o'=sh+o:=c1 S;subst FV;obtain⟨b',sh',BB,q0⟩:=g.rel m _ L;obtain⟨⟨c,el',fz,si,nc,EJ⟩,J9⟩:=Nl CF q0;rw[hi]at BB;cases BB;have zR:sh+o+len*lz<=c.size:=by
             have:len*lz<=gZ*lz:=cV _ S;omega
            refine⟨fun _=>rfl,by rw[K];simp;omega,Row.Pf ug J9,((c.toList.drop (sh+o)).take (len*lz)).toArray,fun w1 Kc=>?_,by rw[K];simpa using nY EJ kZ zR⟩;simp only[Builtin.firstCells];exact run_loadCells (by rw[Kc];exact si) zR
         . cases e
       . cases e
   . cases e
 . rename_i s;split at e
   . rename_i pQ;obtain⟨rfl,rfl⟩:=gr e;simp only[eH]at r;subst r;have nc:(⟨s.toArray⟩:ByteArray).size=s.length:=by show s.toArray.size=_;simp
     refine⟨fun _=>?_,by simp[p8,pQ,Row.kx],trivial,(s.map fun b=>Value.int .u8 b.toNat).toArray,fun w1 _=>?_,by simp only[Row.kx,CA];exact Cz s⟩
     . simp[Builtin.lenOf,nc]
     . simp only[Builtin.firstCells,Sem.run_pure];congr 1;apply Array.ext';simp
   . cases e
 . rename_i f len cs;split at e
   . rename_i hl;obtain⟨rfl,rfl⟩:=gr e;obtain⟨⟨a,kg,vs,rfl,oG,hd,h0,uY⟩,_⟩:=r;have hvl:=pA hd;refine⟨fun _=>rfl,by simp only[Row.kx,D.gy,bM];exact hl,jB hd,vs.toArray,fun w1 Kc=>?_,by simpa[Row.kx]using rU _ _ hd⟩;rcases cW len with hz|hp
     . have:=h0 hz;subst this;have hv:vs=[]:=by simpa using hvl
       subst hv;subst hz;cases a<;>simp[Builtin.firstCells,loadCells,loadCellsFrom]
     . obtain⟨b,o,c,rfl,Ed,A⟩:=uY hp;obtain⟨⟨el,fz,si⟩,_⟩:=g.jG b c Ed;have acR:(c.toList.drop o).take (len*size)=vs:=by
        apply List.ext_getElem?;intro j;rw[cg,cj];by_cases hj:j<len*size
        . rw[aF hj];have TP:j<vs.length:=by omega
          have:=A j _ (au TP);rw[au TP,<- this];simp
        . rw[aD hj,cF S]
       simp only[Builtin.firstCells];rcases cW (len*size)with q|q
       . have hn:vs=[]:=by simpa[hl,q]using hvl
         subst hn;rw[q];rfl
       . have zR:o+len*size<=c.size:=by
          have:((c.toList.drop o).take (len*size)).length=len*size:=by rw[acR];omega
          simp at this;omega
         rw[run_loadCells (by rw[Kc];exact si) zR,acR]
   . cases e
 . cases e
end
section
variable{P:Program}{E:Env}{h:I es}{n:Nat}{w:World}
theorem nu(z:Array Value)(k:Nat):(Builtin.zeroCells z k).size=k*z.size:=by simp[Builtin.zeroCells]
theorem CG{Nj size bytes:Nat}(q:fM Nj size bytes=true):Nj*bytes<=281474976710/\Nj*size<=281474976710:=by
 simpa[fM]using q
theorem uh{b o:Nat}{el:TypeId}{fz:Nat×Nat}:∀(vs:List Value) (i:Nat) (w:World) (c:Array Value),w.heap[b]? =some (.cells c el fz)->
  (∀j,o+i<=j->j<o+i+vs.length->¬(fz.1<=j/\j<fz.2))->(∀v∈vs,v.oneCell'=true)->o+i+vs.length<=c.size->
  ∃w',(storeCells ⟨b,o,none⟩ vs i).run P w= .ok () w'/\w'.heap[b]? =some (.cells (putCells c (o+i) vs) el fz)/\w'.heap.size=w.heap.size/\w'.tape=w.tape/\w'.os=w.os/\w'.output=w.output/\
   ∀x,x≠b->w'.heap[x]? =w.heap[x]?
 | [],i,w,c,h,_,_,hn=>by
   refine⟨w,rfl,?_,rfl,rfl,rfl,rfl,fun _ _=>rfl⟩;rw[h];have:putCells c (o+i) []=c:=by simp[putCells]
   rw[this]
 |v::vs,i,w,c,h,hf,hv,hn=>by
  simp only[aN]at hn hf;have fj:o+i<c.size:=by omega
  have hnf:w.frozen? ⟨b,o+i,none⟩=false:=by
   have:=hf (o+i) (aK _) S;simp only[World.frozen?,h];simpa using this
  let w1:=w.setCell ⟨b,o+i,none⟩ v
  have Kc:w1.heap[b]? =some (.cells (c.setIfInBounds (o+i) v) el fz):=by
   simp[w1,World.setCell,Array.getElem?_modify,h]
  obtain⟨w',e1,e2,e3,e4,e5,e6,e7⟩:=uh (o:=o) vs (i+1) w1 (c.setIfInBounds (o+i) v) Kc (fun j h1 C=>hf j S S) (fun v XI=>hv v (by simp[XI])) (by simp only[Array.size_setIfInBounds];omega);refine⟨w',?_,?_,by rw[e3];simp[w1],by rw[e4];rfl,by rw[e5];rfl,by rw[e6];rfl,?_⟩
  . simp only[storeCells,Sem.run_bind];rw[run_store P w _ v .plain (hv v (by simp)),Addr.jw,nq h,bg fj];simp only[hnf,aM,cI,Result.andThen_ok];exact e1
  . rw[e2];have:o+(i+1)=o+i+1:=by omega
    rw[this,rD S]
  . intro x K;rw[e7 x K];simp[w1,World.setCell,Array.getElem?_modify,Ne.symm K]
theorem yh:∀{l:ag} {t:aa},uQ l=some t->∃xs:List Int,l=xs.map (.int .u8)/\nQ xs=t
 | [],t,h=>by simp only[uQ,aq]at h;subst h;exact⟨[],rfl,rfl⟩
 |v::r,t,h=>by
  unfold uQ at h;split at h
  . rename_i q;cases q
  . rename_i x r' q;cases q;split at h
    . rename_i l hl;obtain rfl:=eZ h;obtain⟨xs,h1,C⟩:=yh hl;exact⟨x::xs,by rw[h1];rfl,by rw[<- C];rfl⟩
    . cases h
  . cases h
theorem FY{r:Row}{t:aa}(h:uR r=some t):∃xs:List Int,r.kx=xs.map (.int .u8)/\nQ xs=t:=by
 unfold uR at h;split at h
 . rename_i W;cases h;exact⟨W,rfl,rfl⟩
 . exact yh h
 . cases h
theorem Ns{xs:List Int}{l:List Value}(r:eK E (xs.map (.int .u8)) l):l=xs.map (.int .u8):=by
 induction xs generalizing l with
 |nil=>exact r
 |cons x xs ih=>
  obtain⟨y,ys,r0,rs,rfl⟩:=r;simp only[eH]at r0;subst r0;rw[ih rs];rfl
theorem AV:∀t:aa,nQ (p8 t)=t
 | []=>rfl
 |b::r=>by
  have ih:=AV r;simp only[nQ,p8,b9,List.map_map]at ih ⊢;rw[ih];simp
theorem H9(xs:List Int):(nQ xs).length=xs.length:=by simp[nQ]
section
variable{st xt el ty:TypeId}{xd:TypeDesc}{i:TypeInfo}
theorem lW{z':Value}(hu:P.underlying st=some (.slice el))(K:P.underlying xt=some xd)(Nt:(∃y,xd= .slice y)\/xd= .string)
  (hi:P.info? el=some i) (hz:i.zero=some z') {base:Option Addr} {sLen sCap k:Nat} {x':Value} {old new:Array Value}
  (jJ:∀w1:World,(Builtin.lenOf x').run P w1= .ok k w1) (qn:∀w1:World,w1.heap=w.heap->(Builtin.firstCells i.size sLen (.slice base sLen sCap)).run P w1= .ok old w1)
  (rC:∀w1:World,w1.heap=w.heap->(Builtin.firstCells i.size k x').run P w1= .ok new w1)
  (oG:sCap<sLen+k) (U:0<i.bytes) (qR:(sLen+k)*i.bytes<=281474976710):
  (Builtin.append_ #[st,xt] ty #[.slice base sLen sCap,x']).run P w=
   .ok (.slice (some ⟨w.heap.size,0,none⟩) (sLen+k) (grownCap w (sLen+k) sCap el))
    (w.drew.alloc (.cells (old++new++Builtin.zeroCells z'.cells (grownCap w (sLen+k) sCap el-(sLen+k))) el)):=by
 have axd:Builtin.nextslicecap (sLen+k) sCap*i.bytes<=281474976710656:=growslice_fits oG S;have AW:¬(sLen+k<=sCap):=by omega
 have Wp:¬(281474976710656<Builtin.nextslicecap (sLen+k) sCap*i.bytes):=by omega
 have hb0:¬(i.bytes=0):=by omega
 have ho:=qn w.drew rfl;have hn:=rC w.drew rfl;rcases Nt with⟨y,rfl⟩|rfl
 . simp[Builtin.append_,eE hu,eE K,sizeOf,typeInfo,zeroValue,hi,hz,jJ,AW,Wp,hb0,Question.forced,newRow,grownCap,ho,hn]
 . simp[Builtin.append_,eE hu,eE K,sizeOf,typeInfo,zeroValue,hi,hz,jJ,AW,Wp,hb0,Question.forced,newRow,grownCap,ho,hn]
theorem run_append_room(hu:P.underlying st=some (.slice el))(K:P.underlying xt=some xd)(Nt:(∃y,xd= .slice y)\/xd= .string)
  (hi:P.info? el=some i) {base:Option Addr} {sLen sCap k:Nat} {x':Value} {new:Array Value}
  (jJ:∀w1:World,(Builtin.lenOf x').run P w1= .ok k w1) (rC:(Builtin.firstCells i.size k x').run P w= .ok new w) (oG:sLen+k<=sCap):
  (Builtin.append_ #[st,xt] ty #[.slice base sLen sCap,x']).run P w=
   ((match base with|some a=>storeCells (a.add (sLen*i.size)) new.toList|none=>pure ()).run P w).andThen fun _ w'=>.ok (.slice base (sLen+k) sCap) w':=by
 rcases Nt with⟨y,rfl⟩|rfl
 . cases base<;>simp[Builtin.append_,eE hu,eE K,sizeOf,typeInfo,hi,jJ,oG,rC]
 . cases base<;>simp[Builtin.append_,eE hu,eE K,sizeOf,typeInfo,hi,jJ,oG,rC]
end
theorem Nu{eW:Array TypeId}{ty:TypeId}{args:ag}{dZ:List Value}{r:iX}(g:Good E h w)(hn:E.ι n=none)(ra:eK E args dZ)
  (e:x5 P eW args h n=some r) (ha:eW.size=2):ku P E h n w (do pure (.value (<- Builtin.append_ eW ty dZ.toArray))) r:=by
 unfold x5 at e;split at e
 . rename_i st xt s x h1 C;obtain⟨T,_,rs,⟨x',_,rx,mg,rfl⟩,rfl⟩:=ra;simp only[eK]at mg;subst mg;have nJ:eW=#[st,xt]:=by
    apply Array.ext
    . simpa using ha
    . intro i q1 q2;have:i=0\/i=1:=by simp at q2;omega
      rcases this with rfl|rfl
      . rw[bg q1]at h1;simpa using h1
      . rw[bg q1]at C;simpa using C
   subst nJ;split at e
   . rename_i el xd he K;split at e
     . rename_i i z XT hi hz;have Nt:(∃y,xd= .slice y)\/xd= .string:=by
        unfold J5 at XT;split at XT
        . exact .inl ⟨_,rfl⟩
        . exact .inr rfl
        . cases XT
       have hu:=HZ he;split at e
       . rename_i hq;obtain⟨q1,q2,q3⟩:=hq;obtain⟨z',D2,BC,FX⟩:=EL (P:=P) (E:=E) (w:=w) hi hz;have hzs:z'.cells.size=i.size:=by have:=fE (jb FX);simp at this;omega
         split at e
         . rename_i k new ht;obtain⟨t1,t2,tsc,kL,t3,t4⟩:=H8 g rx ht;have Wl:kL.size=k*i.size:=by have:=fE t4;simp at this;omega
           split at e
           . rename_i ajC;have J9:=Row.Pg ajC tsc;split at e
             ·
              obtain⟨_,ug,rfl⟩:=rs;split at e
              . obtain rfl:=eZ e;refine eS g (v':=.slice none 0 0) ?_ ⟨rfl,rfl,rfl⟩;rw[Sem.run_bind,run_append_room hu K Nt hi t1 (t3 w rfl) S];rfl
              . rename_i Nn;have hk:0<k:=by
                 cases k with
                 |zero=>exact absurd rfl Nn
                 |succ _=>omega
                split at e
                . rename_i qR;cases ho:newObj h n (Co el x new)with
                  |none=>simp[ho]at e
                  |some p=>
                   obtain⟨h',n'⟩:=p;simp only[ho,aq]at e;subst e;obtain⟨r1,r2⟩:=CG qR;have gF:=lW (w:=w) (ty:=ty) hu K Nt hi D2 (base:=none) (sLen:=0) (sCap:=0) (x':=x') (old:=#[]) t1 (fun _ _=>rfl) t3 S q2 (by simpa using r1);simp only[bI]at gF;have oG:k<=grownCap w k 0 el:=by simp only[grownCap,Question.cut];omega
                   have nc:(#[]++kL++Builtin.zeroCells z'.cells (grownCap w k 0 el-k)).size=grownCap w k 0 el*i.size:=by
                    simp only[Array.size_append,nu,hzs,Wl,Array.size_empty];rw[bI,<- dw];congr 1;omega
                   have EJ:mj E 0 new.kx (#[]++kL++Builtin.zeroCells z'.cells (grownCap w k 0 el-k)):=by
                    intro j v q;obtain⟨v',p1,p2⟩:=iq t4 j v q;refine⟨v',?_,p2⟩;have hj:j<kL.size:=by have:=(aS.1 p1).1;simpa using this
                    rw[cP (by simp;omega)];simpa using p1
                   have hvs:eH (E.put n w.heap.size 0 (#[]++kL++Builtin.zeroCells z'.cells (grownCap w k 0 el-k)).size) (.fk (some (n,0)) k k i.size) (.slice (some ⟨w.heap.size,0,none⟩) k (grownCap w k 0 el)):=by
                    refine⟨w.heap.size,0,0,grownCap w k 0 el,Env.gl,fun _=>rfl,aK _,oG,?_,rfl⟩;rw[nc];simp[Env.put]
                   have Wq:(do pure (.value (<- Builtin.append_ #[st,xt] ty #[.slice none 0 0,x'])):Sem Next).run P w= .ok (.value (.slice (some ⟨w.heap.size,0,none⟩) k (grownCap w k 0 el))) (w.drew.alloc (.cells (#[]++kL++Builtin.zeroCells z'.cells (grownCap w k 0 el-k)) el)):=by
                    simp only[Sem.run_bind,gF,Result.andThen_ok,Sem.run_pure]
                   unfold Co at ho;split at ho
                   . rename_i t;obtain⟨ir,rfl,rfl⟩:=k9 ho;simp only[jT]at ht;split at ht
                     case isFalse=>cases ht
                     rename_i pQ;obtain⟨rfl,rfl⟩:=gr ht;have nZ:=nU.1 EJ;have ua:=jt.alloc (n:=n) (ob:=.cells (#[]++kL++Builtin.zeroCells z'.cells (grownCap w t.length 0 el-t.length)) el) (o:=.wh el false t) (w:=w.drew) (g.same rfl) hn ir (by
                      refine⟨_,_,p8 t,heap_alloc_new,rfl,by simp[Env.put,kD],⟨.inl rfl,fun _=>rfl⟩,AV t,fun j x K=>?_⟩;have:=nZ j x K;simpa using this)
                     exact⟨_,_,_,.inl Wq,hvs,(jt.drew g).trans ua,fun m' ue=>Env.iF ue,.inr rfl⟩
                   . exact tg (r:=new) (w1:=w.drew) (c:=#[]++kL++Builtin.zeroCells z'.cells (grownCap w k 0 el-k)) (el:=el) g hn tsc ho rfl rfl rfl rfl Wq EJ hvs
                . cases e
             ·
              rename_i len cs _;obtain⟨⟨a,kg,vs,rfl,oG,hd,Nq,uY⟩,yg⟩:=rs;obtain⟨_,yg⟩:=yg rfl;simp only[Value.slice.injEq]at yg;obtain⟨_,_,hq⟩:=yg;have hq:=hq.symm;subst hq;split at e
              . obtain rfl:=eZ e;refine eS g (v':=.slice a len len) ?_ ⟨⟨a,len,vs,rfl,oG,hd,Nq,uY⟩,fun _=>⟨a,rfl⟩⟩;rw[Sem.run_bind,run_append_room hu K Nt hi t1 (t3 w rfl) S];have Nq:kL.toList=[]:=by simp at t2;simpa[t2]using fE t4
                rw[Nq];cases a<;>rfl
              . rename_i Nn;have hk:0<k:=by
                 cases k with
                 |zero=>exact absurd rfl Nn
                 |succ _=>omega
                split at e
                . rename_i qR;obtain⟨qR,hl⟩:=qR;cases ho:newObj h n ((Row.ds cs).app new).EE with
                  |none=>simp[ho]at e
                  |some p=>
                   obtain⟨h',n'⟩:=p;simp only[ho,aq]at e;subst e;obtain⟨r1,r2⟩:=CG qR;obtain⟨t1',_,_,Ia,t3',t4'⟩:=H8 (P:=P) (size:=i.size) (x:=.eM true len cs) (x':=.slice a len len) g ⟨⟨a,len,vs,rfl,oG,hd,Nq,uY⟩,fun _=>⟨a,rfl⟩⟩ (k:=len) (new:=.ds cs) (by simp only[jT,aF hl]);have gF:=lW (w:=w) (ty:=ty) hu K Nt hi D2 (base:=a) (sLen:=len) (sCap:=len) (x':=x') (old:=Ia) t1 t3' t3 S q2 r1;have oG:len+k<=grownCap w (len+k) len el:=by simp only[grownCap,Question.cut];omega
                   have hol:Ia.size=len*i.size:=by have:=fE t4';simp[Row.kx,D.gy,hl]at this;omega
                   have nc:(Ia++kL++Builtin.zeroCells z'.cells (grownCap w (len+k) len el-(len+k))).size=grownCap w (len+k) len el*i.size:=by
                    simp only[Array.size_append,nu,hzs,Wl,hol];rw[<- dw,<- dw];congr 1;omega
                   refine tg (r:=(Row.ds cs).app new) (w1:=w.drew) (c:=Ia++kL++Builtin.zeroCells z'.cells (grownCap w (len+k) len el-(len+k))) (el:=el) (v':=.slice (some ⟨w.heap.size,0,none⟩) (len+k) (grownCap w (len+k) len el)) g hn (Row.Kb (jB hd) tsc) ho rfl rfl rfl rfl ?_ ?_ ?_
                   . simp only[Sem.run_bind,gF,Result.andThen_ok,Sem.run_pure]
                   . refine x9 (Row.Ka _ _) ?_;intro j v q;have q':=jg t4' t4;obtain⟨v',p1,p2⟩:=iq q' j v q;refine⟨v',?_,p2⟩;have hj:=(aS.1 p1).1;rw[cP (by simp at hj ⊢;omega)];rw[<- bU];simpa using p1
                   . refine⟨w.heap.size,0,0,grownCap w (len+k) len el,Env.gl,fun _=>rfl,aK _,oG,?_,rfl⟩;rw[nc];simp[Env.put]
                . cases e
             ·
              rename_i m o len kg lz _;split at e
              . rename_i hq2;obtain⟨u1,u2,u3⟩:=hq2;subst u1;obtain⟨b,sh,o',gZ,jX,c1,c2,c3,c4,rfl⟩:=rs;obtain⟨r1,r2⟩:=CG u2;split at e
                ·
                 rename_i TQ AM s0 L;split at e
                 case h_2=>cases e
                 rename_i t ht;split at e
                 case isFalse=>cases e
                 rename_i acU;obtain⟨⟨ho0,acV⟩,⟨jJ,yg⟩,Eh,ajE⟩:=acU;obtain⟨b',sh',BB,c,fz,xs,si,hsh,nc,⟨Ed,Kn⟩,CD,oH⟩:=g.rel m _ L;rw[jX]at BB;cases BB;subst hsh;have FV:o'=0:=by have:=c1 acV;omega
                 subst FV;obtain⟨ys,hy1,hy2⟩:=FY ht;rw[hy1]at t4;have hnv:=Ns t4;have axg:xs.length=s0.length:=by rw[<- CD,H9]
                 generalize hX:xs.take len=Tg;have Km:Tg.length=len:=by rw[<- hX,bf];omega
                 have Wr:∀(j:Nat) (x:Int),Tg[j]? =some x->c[j]? =some (.int .u8 x):=fun j x K=>by
                  rw[<- hX,cg]at K;split at K
                  . exact oH j x K
                  . cases K
                 have hyl:ys.length=k:=by have:=aG List.length hy1;simp at this;rw[<- this,t2,Eh];omega
                 cases ho:newObj (h.set m none) n (.wh TQ AM (s0.take len++t))with
                 |none=>simp[ho]at e
                 |some p=>
                  obtain⟨h',n'⟩:=p;simp only[ho,aq]at e;subst e;subst ajE;obtain⟨ir,rfl,rfl⟩:=k9 ho;have XU:nQ (Tg++ys)=s0.take len++t:=by rw[<- hX,<- CD,<- hy2];simp[nQ,dh]
                  have htl:(s0.take len++t).length=len+k:=by rw[<- XU,H9,az,Km,hyl]
                  by_cases qR:len+k<=gZ
                  ·
                   have Ib:0+(len+k)*i.size<=c.size:=by
                    have:(len+k)*i.size<=gZ*i.size:=cV _ qR;omega
                   rw[Eh]at Ib c4;have Kh:∀v∈kL.toList,v.oneCell'=true:=by
                    intro v hv;rw[hnv]at hv;obtain⟨x,_,rfl⟩:=bP.1 hv;rfl
                   have TK:kL.toList.length=k:=by rw[hnv,bM,hyl]
                   obtain⟨w',e1,e2,e3,e4,e5,e6,e7⟩:=uh (P:=P) (o:=len) kL.toList 0 w c si (fun j h1 C h3=>by
                    have hj:j<c.size:=by omega
                    cases AM with
                    |true=>
                     have:=yg rfl;omega
                    |false=>have:=Kn rfl;omega) Kh S
                   have wJ:len+kL.toList.length<=c.size:=by omega
                   have BS:=jt.move (n:=n) (T:=0) (o:=.wh TQ AM (s0.take len++t)) g u3 ir hn ⟨_,L,rfl⟩ jX e3 e4 e5 e6 e7 (by
                    refine⟨_,fz,Tg++ys,e2,rfl,by rw[Nat.add_zero,ki wJ];simp[Env.put,nc],⟨?_,Kn⟩,XU,fun j x K=>?_⟩
                    . rw[htl];cases AM with
                      |true=>have:=yg rfl;omega
                      |false=>exact .inl (Kn rfl)
                    . rw[Nat.add_zero,nr wJ];by_cases hj:j<len
                      . rw[bH S]at K;rw[aD S];exact Wr j x K
                      . rw[dc S,Km]at K;have TP:j-len<ys.length:=(aS.1 K).1;rw[aF S,hnv,bD,K];rfl)
                   refine⟨_,w',.slice (some ⟨b,0,none⟩) (len+k) gZ,.inl ?_,?_,BS,fun m' ue=>Env.iF ue,.inr rfl⟩
                   . rw[Sem.run_bind,run_append_room hu K Nt hi t1 (t3 w rfl) qR];simp only[Addr.jw,Eh,cR,bI,e1,Result.andThen_ok,Sem.run_pure]
                   . refine⟨b,0,0,gZ,Env.gl,fun _=>rfl,aK _,qR,?_,rfl⟩;simpa[Env.put,Eh]using c4
                  ·
                   have v1:0+len*i.size<=c.size:=by
                    have:len*i.size<=gZ*i.size:=cV _ S;omega
                   have qn:(c.toList.drop 0).take (len*i.size)=Tg.map (Value.int .u8):=by
                    rw[Eh,cR]at *;apply List.ext_getElem?;intro j;rw[cg,bD];by_cases hj:j<len
                    . rw[aF hj,bA];have TP:j<Tg.length:=by omega
                      rw[au TP];have:=Wr j _ (au TP);simpa using this
                    . rw[aD hj,cF S];rfl
                   have hf:∀w1:World,w1.heap=w.heap->(Builtin.firstCells i.size len (.slice (some ⟨b,0,none⟩) len gZ)).run P w1= .ok ((c.toList.drop 0).take (len*i.size)).toArray w1:=fun w1 Kc=>by
                    simp only[Builtin.firstCells];exact run_loadCells (by rw[Kc];exact si) v1
                   have gF:=lW (w:=w) (ty:=ty) hu K Nt hi D2 t1 hf t3 S q2 r1;have oG:len+k<=grownCap w (len+k) gZ TQ:=by simp only[grownCap,Question.cut];omega
                   have uf:=jt.forget g u3;rw[qn]at gF;have HB:((Tg.map (Value.int .u8)).toArray).size=len:=by simp[Km]
                   have TK:kL.size=k:=by rw[Wl,Eh,cR]
                   generalize hC:((Tg.map (Value.int .u8)).toArray++kL++Builtin.zeroCells z'.cells (grownCap w (len+k) gZ TQ-(len+k)))=h2 at gF;have hCs:h2.size=grownCap w (len+k) gZ TQ*i.size:=by
                    rw[<- hC,Array.size_append,Array.size_append,nu,hzs,TK,HB,Eh,cR,cR];omega
                   have ua:=jt.alloc (n:=n) (ob:=.cells h2 TQ) (o:=.wh TQ AM (s0.take len++t)) (w:=w.drew) (uf.good.same rfl) hn ir (by
                    refine⟨h2,_,Tg++ys,heap_alloc_new,rfl,by simp[Env.put,kD],⟨.inl rfl,fun _=>rfl⟩,XU,fun j x K=>?_⟩;rw[<- hC];have OT:j<(Tg++ys).length:=(aS.1 K).1;rw[az]at OT;rw[cP (by rw[Array.size_append,HB,TK];omega)];by_cases hj:j<len
                    . rw[bH S]at K;rw[cP S];simp[K]
                    . rw[dc S]at K;rw[Array.getElem?_append_right S,HB,<- bU,hnv,bD,<- Km,K];rfl)
                   refine⟨_,_,.slice (some ⟨w.heap.size,0,none⟩) (len+k) (grownCap w (len+k) gZ TQ),.inl (by simp only[Sem.run_bind,gF,Result.andThen_ok,Sem.run_pure]),?_,(uf.trans (jt.drew uf.good)).trans ua,fun m' ue=>Env.iF ue,.inr rfl⟩;refine⟨w.heap.size,0,0,grownCap w (len+k) gZ TQ,Env.gl,fun _=>rfl,aK _,oG,?_,rfl⟩;simp[Env.put,kD,hCs]
                . rename_i ob _ L;split at e
                  . rename_i rw0 CF;obtain⟨b',sh',BB,q0⟩:=g.rel m _ L;obtain⟨⟨c,el',fz,si,nc,Kn,EJ⟩,XM⟩:=HV CF q0;rw[jX]at BB;cases BB;split at e
                    . rename_i old qn;have acX:old.sc/\o'+len*i.size<=c.size/\eK E old.kx ((c.toList.drop o').take (len*i.size)):=by
                       have hb0:len*i.size<=gZ*i.size:=cV _ S;refine⟨?_,S,?_⟩
                       . split at qn
                         . obtain rfl:=eZ qn;trivial
                         . exact Row.Pf qn XM
                       split at qn
                       . rename_i D1;obtain⟨_,rfl⟩:=D1;obtain rfl:=eZ qn;simp[eK,Row.kx]
                       . rename_i D1;rcases cW len with hlz|hl
                         . obtain⟨_,Pw⟩:=zP (Row.FK qn);rw[Pw,hlz];simp[eK]
                         obtain⟨kZ,Pw⟩:=zP (Row.FK qn);rw[Pw];have FV:o'=sh+o:=c1 S;subst FV;exact nY EJ kZ S
                      obtain⟨acY,v1,v2⟩:=acX;have hol:old.kx.length=len*i.size:=by have:=fE v2;simp at this;omega
                      split at e
                      . rename_i Nn;obtain⟨_,hk1⟩:=Nn;obtain rfl:=eZ e;subst hk1;refine eS g (v':=.slice (some ⟨b,o',none⟩) len gZ) ?_ ⟨b,sh,o',gZ,jX,c1,c2,c3,c4,rfl⟩;have Nq:kL.toList=[]:=by simp at Wl;simp[Wl]
                        rw[Sem.run_bind,run_append_room hu K Nt hi t1 (t3 w rfl) S,Nq];rfl
                      . rename_i Nn;cases ho:newObj (h.set m none) n (old.app new).EE with
                        |none=>simp[ho]at e
                        |some p=>
                         obtain⟨h',n'⟩:=p;simp only[ho,aq]at e;subst e;obtain⟨ir,rfl,rfl⟩:=k9 ho;by_cases qR:len+k<=gZ
                         ·
                          have Ib:o'+(len+k)*i.size<=c.size:=by
                           have:(len+k)*i.size<=gZ*i.size:=cV _ qR;omega
                          have axj:(len+k)*i.size=len*i.size+k*i.size:=dw _ _ _;have Kh:∀v∈kL.toList,v.oneCell'=true:=by
                           intro v hv;obtain⟨j,hj⟩:=List.getElem?_of_mem hv;have fj:j<new.kx.length:=by rw[<- fE t4];exact(aS.1 hj).1
                           obtain⟨v',p1,p2⟩:=iq t4 j new.kx[j] (au fj);rw[hj]at p1;cases p1;exact uU p2 (by rw[bw]at J9;exact J9 _ (bV fj))
                          obtain⟨w',e1,e2,e3,e4,e5,e6,e7⟩:=nt (P:=P) (o:=o'+len*i.size) kL.toList 0 w c si Kn Kh (by simp;omega);have wJ:o'+len*i.size+kL.toList.length<=c.size:=by simp;omega
                          have BS:=jt.move (n:=n) (T:=o') (o:=(old.app new).EE) g u3 ir hn ⟨_,L,Ph CF⟩ jX e3 e4 e5 e6 e7 (by
                           have kZ:E.le (E.put n b o' (E.β b)):=Env.uW hn fun _ _ _ _ _=>rfl;refine ya ⟨_,el',fz,e2,by rw[ki (by simpa using wJ)];simp[Env.put,nc],by rw[ki (by simpa using wJ)];exact Kn,?_⟩ (Row.Kb acY tsc);refine x9 (Row.Ka _ _) ?_;refine pO kZ ?_;intro j v q;rw[nr (by simpa using wJ)];by_cases hj:j<len*i.size
                           . rw[bH S]at q;rw[aD S];obtain⟨v',p1,p2⟩:=iq v2 j v q;refine⟨v',?_,p2⟩;rw[cg,aF hj,cj]at p1;simpa using p1
                           . rw[dc S,hol]at q;have TP:j-len*i.size<new.kx.length:=(aS.1 q).1;rw[aF (by simp;omega)];obtain⟨v',p1,p2⟩:=iq t4 _ v q;refine⟨v',?_,p2⟩;rw[<- p1];congr 1;omega)
                          refine⟨_,w',.slice (some ⟨b,o',none⟩) (len+k) gZ,.inl ?_,?_,BS,fun m' ue=>Env.iF ue,.inr rfl⟩
                          . rw[Sem.run_bind,run_append_room hu K Nt hi t1 (t3 w rfl) qR];simp only[Addr.jw,e1,Result.andThen_ok,Sem.run_pure]
                          . refine⟨b,o',o',gZ,Env.gl,fun _=>rfl,aK _,qR,?_,rfl⟩;simpa[Env.put]using c4
                         ·
                          have hf:∀w1:World,w1.heap=w.heap->(Builtin.firstCells i.size len (.slice (some ⟨b,o',none⟩) len gZ)).run P w1= .ok ((c.toList.drop o').take (len*i.size)).toArray w1:=fun w1 Kc=>by
                           simp only[Builtin.firstCells];exact run_loadCells (by rw[Kc];exact si) v1
                          have gF:=lW (w:=w) (ty:=ty) hu K Nt hi D2 t1 hf t3 S q2 r1;have oG:len+k<=grownCap w (len+k) gZ el:=by simp only[grownCap,Question.cut];omega
                          have uf:=jt.forget g u3;have HB:((c.toList.drop o').take (len*i.size)).toArray.size=len*i.size:=by simp;omega
                          have Nv:(((c.toList.drop o').take (len*i.size)).toArray++kL++Builtin.zeroCells z'.cells (grownCap w (len+k) gZ el-(len+k))).size=grownCap w (len+k) gZ el*i.size:=by
                           rw[Array.size_append,Array.size_append,nu,hzs,Wl,HB];rw[<- dw,<- dw];congr 1;omega
                          obtain⟨E',w',v',p1,p2,p3,p4,p5⟩:=tg (P:=P) (r:=old.app new) (s:=(do pure (.value (<- Builtin.append_ #[st,xt] ty #[.slice (some ⟨b,o',none⟩) len gZ,x'])):Sem Next))
                           (v:=.fk (some (n,0)) (len+k) (len+k) i.size) (w1:=w.drew) (c:=((c.toList.drop o').take (len*i.size)).toArray++kL++Builtin.zeroCells z'.cells (grownCap w (len+k) gZ el-(len+k))) (el:=el)
                           (v':=.slice (some ⟨w.heap.size,0,none⟩) (len+k) (grownCap w (len+k) gZ el)) uf.good hn (Row.Kb acY tsc) ho rfl rfl rfl rfl
                           (by simp only[Sem.run_bind,gF,Result.andThen_ok,Sem.run_pure])
                           (by
                            refine x9 (Row.Ka _ _) ?_;intro j v q;have q':=jg v2 t4;obtain⟨v',p1,p2⟩:=iq q' j v q;refine⟨v',?_,p2⟩;have hj:=(aS.1 p1).1;rw[cP (by simp at hj ⊢;omega)];rw[<- bU];simpa using p1)
                           (by
                            refine⟨w.heap.size,0,0,grownCap w (len+k) gZ el,Env.gl,fun _=>rfl,aK _,oG,?_,rfl⟩;rw[Nv];simp[Env.put])
                          exact⟨E',w',v',p1,p2,uf.trans p3,p4,p5⟩
                    . cases e
                  . cases e
                . cases e
              . cases e
             . cases e
           . cases e
         . cases e
       . cases e
     . cases e
   . cases e
 . cases e
end
theorem jK{kk:Option IntKind}{a b:D}(ha:gS kk a=true)(U:gS kk b=true):iA a b=true↔a=b:=by
 cases kk with
 |none=>
  cases a<;>simp only[gS,aM]at ha;cases b<;>simp only[gS,aM]at U;rename_i s t;simp only[iA,kM,ct,D.str.injEq]
 |some k=>
  cases a<;>simp only[gS,aM,aU]at ha;cases b<;>simp only[gS,aM,aU]at U;subst ha;subst U;simp[iA]
theorem Ic{φ:Nat->Option (Array Value)}{kd:TypeDesc}{kk:Option IntKind}{a b:D}{a' b':Value}(hd:lJ kd kk=true)(ha:gS kk a=true)(U:gS kk b=true)(ra:lF φ a a')(rb:lF φ b b'):
  Instr.sameNow kd a' b'=some (iA a b):=by
 cases kk with
 |none=>
  cases a<;>simp only[gS,aM]at ha;cases b<;>simp only[gS,aM]at U;simp only[lF]at ra rb;subst ra;subst rb;cases kd<;>simp only[lJ,aM]at hd;simp only[Instr.sameNow,iA];rw[rZ]
 |some k=>
  cases a<;>simp only[gS,aM,aU]at ha;cases b<;>simp only[gS,aM,aU]at U;subst ha;subst U;simp only[lF]at ra rb;subst ra;subst rb;cases kd<;>simp only[lJ,aM]at hd;simp[Instr.sameNow,iA];rfl
theorem sj{φ:Nat->Option (Array Value)}{kd:TypeDesc}{kk:Option IntKind}{k:D}{k':Value}(hd:lJ kd kk=true)(hk:gS kk k=true)(rk:lF φ k k'):
  ∀(l:ae) (ga:List MapEntry) (i:Nat),kY φ l ga->(∀e∈l,gS kk e.1=true)->
  match fL k l with
  |none=>Instr.findNow kd k' ga i=some none/\(∀v,nS k v l=l++[(k,v)])/\uz k l=l/\k∉l.map (·.1)
  |some d=>∃j e',i<=j/\ga[j-i]? =some e'/\lF φ d e'.val/\lF φ k e'.key/\Instr.findNow kd k' ga i=some (some (j,e'.val))/\l[j-i]? =some (k,d)/\(∀v,nS k v l=l.set (j-i) (k,v))/\uz k l=l.eraseIdx (j-i)
 | [],ga,i,r,_=>by
   simp only[kY]at r;subst r;simp only[fL];exact⟨rfl,fun _=>rfl,rfl,by simp⟩
 |x::l,_,i,r,hl=>by
  obtain⟨y,ys,r1,r2,rs,rfl⟩:=r;have K:=hl x (by simp);have hs:=Ic hd hk K rk r1;simp only[fL];cases hq:iA k x.1 with
  |true=>
   have e:=(jK hk K).1 hq;refine⟨i,y,aK _,by simp,r2,by rw[e];exact r1,?_,?_,fun v=>?_,?_⟩
   . simp only[Instr.findNow,hs,hq]
   . simp[e]
   . simp[nS,hq]
   . simp[uz,hq]
  |false=>
   have ih:=sj hd hk rk l ys (i+1) rs fun e he=>hl e (by simp[he]);simp only;cases hL:fL k l with
   |none=>
    rw[hL]at ih;obtain⟨i1,i2,i3,i4⟩:=ih;refine⟨?_,fun v=>?_,?_,?_⟩
    . simp only[Instr.findNow,hs,hq,i1]
    . simp[nS,hq,i2]
    . simp[uz,hq,i3]
    . intro h;simp only[b9,aA]at h;rcases h with q|q
      . rw[(jK hk K).2 q]at hq;cases hq
      . exact i4 q
   |some d=>
    rw[hL]at ih;obtain⟨j,e',j1,j2,j3,j4,j5,j6,j7,j8⟩:=ih;have hj:j-i=(j-(i+1))+1:=by omega
    refine⟨j,e',S,by rw[hj];simpa using j2,j3,j4,?_,by rw[hj];simpa using j6,fun v=>?_,?_⟩
    . simp only[Instr.findNow,hs,hq,j5]
    . rw[hj];simp[nS,hq,j7]
    . rw[hj];simp[uz,hq,j8]
theorem zS{kk:Option IntKind}{k d:D}(hk:gS kk k=true):∀{l:ae},(∀e∈l,gS kk e.1=true)->(l.map (·.1)).Nodup->(fL k l=some d↔(k,d)∈l)
 | [],_,_=>by simp[fL]
 |x::l,hl,hn=>by
  have K:=hl x (by simp);simp only[b9,List.nodup_cons]at hn;simp only[fL];cases hq:iA k x.1 with
  |true=>
   have e:=(jK hk K).1 hq;simp only[aq,aA];constructor
   . intro h;left;rw[e,<- h]
   . rintro(h|h)
     . rw[<- h]
     . exact absurd (bP.2 ⟨(k,d),h,e⟩) hn.1
  |false=>
   have e:k≠x.1:=fun h=>by rw[(jK hk K).2 h]at hq;cases hq
   simp only[aA];rw[zS hk (fun e he=>hl e (by simp[he])) hn.2];constructor
   . exact .inr
   . rintro(h|h)
     . exact absurd (by rw[<- h]) e
     . exact h
section
variable{kk:Option IntKind}{k:D}
theorem Ko(hk:gS kk k=true){l O:ae}(h:List.Perm l O)(hl:∀e∈O,gS kk e.1=true)(hn:(O.map (·.1)).Nodup):fL k l=fL k O:=by
 have hl':∀e∈l,gS kk e.1=true:=fun e he=>hl e (h.mem_iff.1 he);have oy:(l.map (·.1)).Nodup:=(h.map _).nodup_iff.2 hn;apply Option.ext;intro d;rw[zS hk hl' oy,zS hk hl hn,h.mem_iff]
theorem Nw{v:D}(hk:gS kk k=true){l O:ae}(h:List.Perm l O):(∀e∈O,gS kk e.1=true)->(O.map (·.1)).Nodup->List.Perm (nS k v l) (nS k v O):=by
 induction h with
 |nil=>intro _ _;exact .refl _
 |cons x p ih=>
  intro hl hn;simp only[nS];cases iA k x.1 with
  |true=>exact .cons _ p
  |false=>exact .cons _ (ih (fun e he=>hl e (by simp[he])) (by simp at hn;exact hn.2))
 |swap x y l=>
  intro hl hn;simp only[nS];have K:=hl x (by simp);have hy:=hl y (by simp);cases hqx:iA k x.1 with
  |true=>
   have ex:=(jK hk K).1 hqx;cases hqy:iA k y.1 with
   |true=>
    have ey:=(jK hk hy).1 hqy;simp[<- ex,<- ey]at hn
   |false=>exact .swap _ _ _
  |false=>
   cases hqy:iA k y.1 with
   |true=>exact .swap _ _ _
   |false=>exact .swap _ _ _
 |trans p q Px Py=>
  intro hl hn;exact(Px (fun e he=>hl e (q.mem_iff.1 he)) ((q.map _).nodup_iff.2 hn)).trans (Py hl hn)
theorem Nx(hk:gS kk k=true){l O:ae}(h:List.Perm l O):(∀e∈O,gS kk e.1=true)->(O.map (·.1)).Nodup->List.Perm (uz k l) (uz k O):=by
 induction h with
 |nil=>intro _ _;exact .refl _
 |cons x p ih=>
  intro hl hn;simp only[uz];cases iA k x.1 with
  |true=>exact p
  |false=>exact .cons _ (ih (fun e he=>hl e (by simp[he])) (by simp at hn;exact hn.2))
 |swap x y l=>
  intro hl hn;simp only[uz];have K:=hl x (by simp);have hy:=hl y (by simp);cases hqx:iA k x.1 with
  |true=>
   have ex:=(jK hk K).1 hqx;cases hqy:iA k y.1 with
   |true=>
    have ey:=(jK hk hy).1 hqy;simp[<- ex,<- ey]at hn
   |false=>exact .refl _
  |false=>
   cases hqy:iA k y.1 with
   |true=>exact .refl _
   |false=>exact .swap _ _ _
 |trans p q Px Py=>
  intro hl hn;exact(Px (fun e he=>hl e (q.mem_iff.1 he)) ((q.map _).nodup_iff.2 hn)).trans (Py hl hn)
end
theorem EM{φ:Nat->Option (Array Value)}{f:MapEntry->MapEntry}{x:D×D}(hf:∀y,lF φ x.1 (f y).key/\lF φ x.2 (f y).val):∀(l:ae) (O:List MapEntry) (i:Nat),kY φ l O->kY φ (l.set i x) (O.modify i f)
 | [],_,i,r=>by simp only[kY]at r;subst r;simp[kY]
 |a::l,_,i,r=>by
  obtain⟨y,ys,r1,r2,rs,rfl⟩:=r;cases i with
  |zero=>exact⟨f y,ys,(hf y).1,(hf y).2,rs,by simp⟩
  |succ i=>exact⟨y,_,r1,r2,EM hf l ys i rs,by simp⟩
theorem xb{φ:Nat->Option (Array Value)}:∀(l:ae) (O:List MapEntry) (x:D×D) (y:MapEntry),kY φ l O->lF φ x.1 y.key->lF φ x.2 y.val->kY φ (l++[x]) (O++[y])
 | [],_,x,y,r,a,b=>by simp only[kY]at r;subst r;exact⟨y,[],a,b,rfl,rfl⟩
 |z::l,_,x,y,r,a,b=>by
  obtain⟨y0,ys,r1,r2,rs,rfl⟩:=r;exact⟨y0,_,r1,r2,xb l ys x y rs a b,rfl⟩
theorem AX{φ:Nat->Option (Array Value)}:∀(l:ae) (O:List MapEntry) (i:Nat),kY φ l O->kY φ (l.eraseIdx i) (O.eraseIdx i)
 | [],_,i,r=>by simp only[kY]at r;subst r;simp[kY]
 |a::l,_,i,r=>by
  obtain⟨y,ys,r1,r2,rs,rfl⟩:=r;cases i with
  |zero=>exact rs
  |succ i=>exact⟨y,_,r1,r2,AX l ys i rs,rfl⟩
theorem yj{φ:Nat->Option (Array Value)}:∀{l:ae} {O:List MapEntry},kY φ l O->O.length=l.length
 | [],_,r=>by simp only[kY]at r;subst r;rfl
 |_::_,_,r=>by obtain⟨y,ys,_,_,rs,rfl⟩:=r;simp[yj rs]
open Classical in
theorem zT{kk:Option IntKind}{k v:D}(hk:gS kk k=true):∀(l:ae),(∀e∈l,gS kk e.1=true)->(nS k v l).map (·.1)=if k∈l.map (·.1)then l.map (·.1)else l.map (·.1)++[k]
 | [],_=>by simp[nS]
 |x::l,hl=>by
  have K:=hl x (by simp);simp only[nS];cases hq:iA k x.1 with
  |true=>
   have e:=(jK hk K).1 hq;simp[e]
  |false=>
   have e:k≠x.1:=fun h=>by rw[(jK hk K).2 h]at hq;cases hq
   simp only[b9,zT hk l fun e he=>hl e (by simp[he]),aA,e,false_or];split<;>simp
theorem Ie{k:D}:∀(l:ae),List.Sublist (uz k l) l
 | []=>.slnil
 |x::l=>by
  simp only[uz];cases iA k x.1 with
  |true=>exact List.sublist_cons_self _ _
  |false=>exact .cons_cons _ (Ie l)
open Classical in
section
variable{φ:Nat->Option (Array Value)}{kd:TypeDesc}{kk:Option IntKind}{O:ae}{ga:Array MapEntry}{fA:Nat}{k:D}{k':Value}
theorem kC.CH{v:D}{k' v':Value}(r:kC φ kk O ga.toList fA)(hd:lJ kd kk=true)(hk:gS kk k=true)(rk:lF φ k k')(rv:lF φ v v'):
  (Instr.findNow kd k' ga.toList 0=some none/\kC φ kk (nS k v O) (ga.push { key:=k',val:=v',born:=fA }).toList (fA+1)) \/
  ∃(j:Nat) (e':MapEntry),Instr.findNow kd k' ga.toList 0=some (some (j,e'.val))/\ga[j]? =some e'/\lF φ k e'.key/\kC φ kk (nS k v O) (ga.modify j fun e=>{ e with key:=k',val:=v' }).toList fA:=by
 obtain⟨l,hp,hr⟩:=r.row;have hl:∀e∈l,gS kk e.1=true:=fun e he=>r.kind e (hp.mem_iff.1 he);have Ws:=Nw (v:=v) hk hp r.kind r.keys;have If:((nS k v O).map (·.1)).Nodup:=by
  rw[zT hk O r.kind];split
  . exact r.keys
  . rename_i h;exact List.nodup_append.2 ⟨r.keys,by simp,fun a ha b U=>by simp at U;subst U;intro q;subst q;exact h ha⟩
 have Ig:∀e∈nS k v O,gS kk e.1=true:=by
  intro e he;have:e.1∈(nS k v O).map (·.1):=bP.2 ⟨e,he,rfl⟩;rw[zT hk O r.kind]at this;have base:e.1∈O.map (·.1)->gS kk e.1=true:=fun h=>by obtain⟨x,K,q⟩:=bP.1 h;rw[<- q];exact r.kind x K
  split at this
  . exact base this
  . rcases bj.1 this with h|h
    . exact base h
    . simp at h;rw[h];exact hk
 have hf:=sj hd hk rk l ga.toList 0 hr hl;cases hL:fL k l with
 |none=>
  rw[hL]at hf;obtain⟨h1,C,_,_⟩:=hf;refine .inl ⟨h1,⟨⟨_,Ws,?_⟩,If,Ig,?_,?_⟩⟩
  . rw[C,Array.toList_push];exact xb l ga.toList (k,v) _ hr rk rv
  . intro e he;rw[Array.toList_push]at he;rcases bj.1 he with q|q
    . have:=r.old e q;omega
    . simp at q;subst q;simp
  . rw[Array.toList_push,bL];refine List.nodup_append.2 ⟨r.born,by simp,fun a ha b U=>?_⟩;simp at U;subst U;obtain⟨e,he,q⟩:=bP.1 ha;have:=r.old e he;omega
 |some d=>
  rw[hL]at hf;obtain⟨j,e',_,C,h3,h4,h5,h6,h7,_⟩:=hf;simp only[dz]at C h6 h7;have L8:(ga.modify j fun e=>{ e with key:=k',val:=v' }).toList.map (·.born)=ga.toList.map (·.born):=by
   rw[Array.toList_modify];apply List.ext_getElem?;intro i;simp only[bD,List.getElem?_modify];by_cases Pz:j=i
   . simp[Pz];cases ga.toList[i]? <;>rfl
   . simp[Pz]
  refine .inr ⟨j,e',h5,by rw[<- bU];exact C,h4,⟨⟨_,Ws,?_⟩,If,Ig,?_,?_⟩⟩
  . rw[h7,Array.toList_modify];exact EM (f:=fun e=>{ e with key:=k',val:=v' }) (fun y=>⟨rk,rv⟩) l ga.toList j hr
  . intro e he;have:e.born∈(ga.modify j fun e=>{ e with key:=k',val:=v' }).toList.map (·.born):=bP.2 ⟨e,he,rfl⟩;rw[L8]at this;obtain⟨e0,he0,q⟩:=bP.1 this;rw[<- q];exact r.old e0 he0
  . rw[L8];exact r.born
theorem kC.del(r:kC φ kk O ga.toList fA)(hd:lJ kd kk=true)(hk:gS kk k=true)(rk:lF φ k k'):
  (Instr.findNow kd k' ga.toList 0=some none/\kC φ kk (uz k O) ga.toList fA) \/
  ∃(j:Nat) (e':MapEntry),Instr.findNow kd k' ga.toList 0=some (some (j,e'.val))/\kC φ kk (uz k O) (ga.eraseIdxIfInBounds j).toList fA:=by
 obtain⟨l,hp,hr⟩:=r.row;have hl:∀e∈l,gS kk e.1=true:=fun e he=>r.kind e (hp.mem_iff.1 he);have Ws:=Nx hk hp r.kind r.keys;have qJ:List.Sublist (uz k O) O:=Ie O;have If:((uz k O).map (·.1)).Nodup:=r.keys.sublist (qJ.map _);have Ig:∀e∈uz k O,gS kk e.1=true:=fun e he=>r.kind e (qJ.mem he);have hf:=sj hd hk rk l ga.toList 0 hr hl;cases hL:fL k l with
 |none=>
  rw[hL]at hf;obtain⟨h1,_,h3,_⟩:=hf;exact .inl ⟨h1,⟨⟨l,by rw[h3]at Ws;exact Ws,hr⟩,If,Ig,r.old,r.born⟩⟩
 |some d=>
  rw[hL]at hf;obtain⟨j,e',_,C,_,_,h5,_,_,h8⟩:=hf;simp only[dz]at C h8;have ht:(ga.eraseIdxIfInBounds j).toList=ga.toList.eraseIdx j:=Array.toList_eraseIdxIfInBounds;refine .inr ⟨j,e',h5,⟨⟨_,Ws,?_⟩,If,Ig,?_,?_⟩⟩
  . rw[h8,ht];exact AX l ga.toList j hr
  . intro e he;rw[ht]at he;exact r.old e ((List.eraseIdx_sublist _ _).mem he)
  . rw[ht];exact r.born.sublist ((List.eraseIdx_sublist _ _).map _)
theorem kC.look(r:kC φ kk O ga.toList fA)(hd:lJ kd kk=true)(hk:gS kk k=true)(rk:lF φ k k'):
  match fL k O with
  |none=>Instr.findNow kd k' ga.toList 0=some none
  |some d=>∃j v',Instr.findNow kd k' ga.toList 0=some (some (j,v'))/\lF φ d v':=by
 obtain⟨l,hp,hr⟩:=r.row;have hl:∀e∈l,gS kk e.1=true:=fun e he=>r.kind e (hp.mem_iff.1 he);have hf:=sj hd hk rk l ga.toList 0 hr hl;rw[<- Ko hk hp r.kind r.keys];cases hL:fL k l with
 |none=>rw[hL]at hf;exact hf.1
 |some d=>
  rw[hL]at hf;obtain⟨j,e',_,_,h3,_,h5,_⟩:=hf;exact⟨j,e'.val,h5,h3⟩
end
theorem kC.length{φ:Nat->Option (Array Value)}{kk:Option IntKind}{O:ae}{ga:List MapEntry}{fA:Nat}(r:kC φ kk O ga fA):ga.length=O.length:=by
 obtain⟨l,hp,hr⟩:=r.row;rw[yj hr,hp.length_eq]
theorem pR{E:Env}{x:V}{d:D}{x':Value}(e:keyOf x=some d)(r:eH E x x'):lF E.φ d x':=by
 unfold keyOf at e;split at e<;>first|(cases e;exact r)|cases e
theorem yl{x:V}{d:D}{kd:TypeDesc}{kk:Option IntKind}(e:keyOf x=some d)(hd:lJ kd kk=true)(hk:gS kk d=true):Cn kd x=true:=by
 unfold keyOf at e;split at e
 . cases e;cases kk<;>simp only[gS,aM]at hk;cases kd<;>simp only[lJ,aM]at hd;rfl
 . cases e;cases kk<;>simp only[gS,aM]at hk;cases kd<;>simp only[lJ,aM]at hd;rfl
 . cases e
section
variable{P:Program}{E:Env}{h:I es}{n:Nat}{w:World}
theorem fU{b:Nat}{o:Obj}(U:w.heap[b]? =some o)(hn:∀c el fz,o≠ .cells c el fz):(getObj b).run P w= .ok o w:=by
 simp only[getObj,Sem.run,U]
theorem kH{b:Nat}{o o':Obj}(U:w.heap[b]? =some o)(hn:∀c el fz,o≠ .cells c el fz):(setObj b o').run P w= .ok () { w with heap:=w.heap.setIfInBounds b o' }:=by
 simp only[setObj,Sem.run,U]
theorem yn:∀{xs:List (V×V×Nat)} {ys:List MapEntry},kX E xs ys->ys.length=xs.length
 | [],_,r=>by simp only[kX]at r;subst r;rfl
 |_::_,_,r=>by obtain⟨y,ys,_,_,_,rs,rfl⟩:=r;simp[yn rs]
theorem yo{m:Nat}{O:List (V×V×Nat)}{fA:Nat}(g:Good E h w)(L:h.get m=some (.map O fA)):
  ∃b ga,E.ι m=some (b,0)/\w.heap[b]? =some (.map ga fA)/\kX E O ga.toList:=by
 obtain⟨b,s,hi,hs,ga,h1,C⟩:=g.rel m _ L;subst hs;exact⟨b,ga,hi,h1,C⟩
theorem yp{m:Nat}{kk:Option IntKind}{O:ae}(g:Good E h w)(L:h.get m=some (.gL kk O)):
  ∃b ga fA,E.ι m=some (b,0)/\w.heap[b]? =some (.map ga fA)/\kC E.φ kk O ga.toList fA:=by
 obtain⟨b,s,hi,hs,ga,fA,h1,C⟩:=g.rel m _ L;subst hs;exact⟨b,ga,fA,hi,h1,C⟩
theorem XV{eW:Array TypeId}{ty:TypeId}{args:ag}{dZ:List Value}{v:V}(g:Good E h w)(ra:eK E args dZ)(e:Nk P eW args h=some v):
  ku P E h n w (do pure (.value (<- Builtin.len_ eW ty dZ.toArray))) (.val v h n):=by
 unfold Nk at e;split at e
 . rename_i t x h1;obtain⟨x',_,rx,mg,rfl⟩:=ra;simp only[eK]at mg;subst mg;split at e
   . rename_i s hu;obtain rfl:=eZ e;simp only[eH]at rx;subst rx;refine eS g (v':=.int .i64 s.length) ?_ rfl;have nc:(⟨s.toArray⟩:ByteArray).size=s.length:=by show s.toArray.size=_;simp
     simp[Builtin.len_,h1,eE hu,goInt,nc]
   . rename_i _ k _ hu;obtain rfl:=eZ e;refine eS g (v':=.int .i64 k) ?_ rfl;simp[Builtin.len_,h1,eE hu,goInt]
   . rename_i a len kg lz hu;obtain rfl:=eZ e;refine eS g (v':=.int .i64 len) ?_ rfl;cases a with
     |none=>obtain⟨rfl,rfl,rfl⟩:=rx;simp[Builtin.len_,h1,eE hu,goInt]
     |some a=>obtain⟨_,_,_,_,_,_,_,_,_,rfl⟩:=rx;simp[Builtin.len_,h1,eE hu,goInt]
   . rename_i f len cs hu;obtain rfl:=eZ e;refine eS g (v':=.int .i64 len) ?_ rfl;obtain⟨⟨_,_,_,rfl,_⟩,_⟩:=rx;simp[Builtin.len_,h1,eE hu,goInt]
   . rename_i hu;obtain rfl:=eZ e;simp only[eH]at rx;subst rx;refine eS g (v':=.int .i64 0) ?_ rfl;simp[Builtin.len_,h1,eE hu,goInt]
   . rename_i m hu;split at e
     . rename_i O fA L;obtain rfl:=eZ e;obtain⟨b,ga,hi,U,BT⟩:=yo g L;obtain⟨b',jX,rfl⟩:=rx;rw[hi]at jX;cases jX;refine eS g (v':=.int .i64 O.length) ?_ rfl;have hl:=yn BT;simp only[Array.length_toList]at hl;simp[Builtin.len_,h1,eE hu,goInt,fU (P:=P) U (by intro _ _ _ q;cases q),hl]
     . rename_i kk O L;obtain rfl:=eZ e;obtain⟨b,ga,fA,hi,U,BT⟩:=yp g L;obtain⟨b',jX,rfl⟩:=rx;rw[hi]at jX;cases jX;refine eS g (v':=.int .i64 O.length) ?_ rfl;have hl:=BT.length;simp only[Array.length_toList]at hl;simp[Builtin.len_,h1,eE hu,goInt,fU (P:=P) U (by intro _ _ _ q;cases q),hl]
     . cases e
   . cases e
 . cases e
theorem Ih:∀(xs:ag) (x v:V) (x':Value) (zx:List Value),eH E x x'->eK E xs zx->HO x xs=some v->
  ∃v',(zx.foldlM Builtin.max2 x').run P w= .ok v' w/\eH E v v'
 | [],x,v,x',zx,rx,rs,e=>by
   simp only[eK]at rs;subst rs;have:v=x:=by cases x<;>simp[HO]at e<;>exact e.symm
   subst this;exact⟨x',rfl,rx⟩
 |y::ys,x,v,x',_,rx,rs,e=>by
  obtain⟨y',EH,ry,XQ,rfl⟩:=rs;cases x with
  |int k a=>cases y with
   |int j b=>
    simp only[HO]at e;simp only[eH]at rx ry;subst rx;subst ry;obtain⟨v',h1,C⟩:=Ih ys (.int k (if b>a then b else a)) v (.int k (if b>a then b else a)) EH rfl XQ e;refine⟨v',?_,C⟩;simp only[List.foldlM_cons,Sem.run_bind,Builtin.max2,Sem.run_pure,Result.andThen_ok];exact h1
   |_=>simp[HO]at e
  |_=>simp[HO]at e
theorem Ii:∀(xs:ag) (x v:V) (x':Value) (zx:List Value),eH E x x'->eK E xs zx->HP x xs=some v->
  ∃v',(zx.foldlM Builtin.min2 x').run P w= .ok v' w/\eH E v v'
 | [],x,v,x',zx,rx,rs,e=>by
   simp only[eK]at rs;subst rs;have:v=x:=by cases x<;>simp[HP]at e<;>exact e.symm
   subst this;exact⟨x',rfl,rx⟩
 |y::ys,x,v,x',_,rx,rs,e=>by
  obtain⟨y',EH,ry,XQ,rfl⟩:=rs;cases x with
  |int k a=>cases y with
   |int j b=>
    simp only[HP]at e;simp only[eH]at rx ry;subst rx;subst ry;obtain⟨v',h1,C⟩:=Ii ys (.int k (if b<a then b else a)) v (.int k (if b<a then b else a)) EH rfl XQ e;refine⟨v',?_,C⟩;simp only[List.foldlM_cons,Sem.run_bind,Builtin.min2,Sem.run_pure,Result.andThen_ok];exact h1
   |_=>simp[HP]at e
  |_=>simp[HP]at e
section
variable{eW:Array TypeId}{ty:TypeId}
theorem XW{x v:V}{xs:ag}{dZ:List Value}(g:Good E h w)(ra:eK E (x::xs) dZ)(e:HO x xs=some v):
  ku P E h n w (do pure (.value (<- Builtin.max_ eW ty dZ.toArray))) (.val v h n):=by
 obtain⟨x',zx,rx,XP,rfl⟩:=ra;obtain⟨v',h1,C⟩:=Ih (P:=P) (w:=w) xs x v x' zx rx XP e;refine eS g (v':=v') ?_ C;simp only[Builtin.max_,Sem.run_bind,h1,Result.andThen_ok,Sem.run_pure]
theorem XX{x v:V}{xs:ag}{dZ:List Value}(g:Good E h w)(ra:eK E (x::xs) dZ)(e:HP x xs=some v):
  ku P E h n w (do pure (.value (<- Builtin.min_ eW ty dZ.toArray))) (.val v h n):=by
 obtain⟨x',zx,rx,XP,rfl⟩:=ra;obtain⟨v',h1,C⟩:=Ii (P:=P) (w:=w) xs x v x' zx rx XP e;refine eS g (v':=v') ?_ C;simp only[Builtin.min_,Sem.run_bind,h1,Result.andThen_ok,Sem.run_pure]
end
theorem Ny{kd:TypeDesc}{a b:V}{a' b':Value}{r:Bool}(ra:eH E a a')(rb:eH E b b')(e:x3 kd a b=some r):Instr.sameNow kd a' b'=some r:=by
 unfold x3 at e;split at e
 . simp only[eH]at ra rb;subst ra;subst rb;split at e
   . rename_i hk;obtain rfl:=eZ e;simp[Instr.sameNow,hk]
   . cases e
 . simp only[eH]at ra rb;subst ra;subst rb;obtain rfl:=eZ e;simp only[Instr.sameNow];rw[rZ]
 . cases e
theorem vO{kd:TypeDesc}{k:V}{k':Value}(rk:eH E k k'):∀(O:List (V×V×Nat)) (ga:List MapEntry) (i:Nat) (r:Option (Nat×V×V×Nat)),kX E O ga->uO kd k O i=some r->
  match r with
  |none=>Instr.findNow kd k' ga i=some none
  |some (j,e)=>∃e',i<=j/\O[j-i]? =some e/\ga[j-i]? =some e'/\x3 kd k e.1=some true/\eH E e.1 e'.key/\eH E e.2.1 e'.val/\e'.born=e.2.2/\Instr.findNow kd k' ga i=some (some (j,e'.val))
 | [],ga,i,r,rs,e=>by
   simp only[kX]at rs;subst rs;simp only[uO,aq]at e;subst e;simp[Instr.findNow]
 |x::xs,_,i,r,rs,e=>by
  obtain⟨y,ys,r1,r2,r3,rs,rfl⟩:=rs;simp only[uO]at e;cases hk:x3 kd k x.1 with
  |none=>simp[hk]at e
  |some b=>
   have hs:=Ny rk r1 hk;cases b with
   |true=>
    simp only[hk,aq]at e;subst e;exact⟨y,aK _,by simp,by simp,hk,r1,r2,r3,by simp[Instr.findNow,hs]⟩
   |false=>
    simp only[hk]at e;have ih:=vO rk xs ys (i+1) r rs e;cases r with
    |none=>simp only at ih ⊢;simp[Instr.findNow,hs,ih]
    |some q=>
     obtain⟨j,e0⟩:=q;obtain⟨e',a1,a2,a3,a4,a5,a6,a7,a8⟩:=ih;have hj:j-i=(j-(i+1))+1:=by omega
     exact⟨e',S,by rw[hj];simpa using a2,by rw[hj];simpa using a3,a4,a5,a6,a7,by simp[Instr.findNow,hs,a8]⟩
section
variable{kt:TypeId}{kd:TypeDesc}{k:V}{k':Value}{b:Bool}
theorem iC{ga:List MapEntry}{r:Option (Nat×Value)}(hu:P.underlying kt=some kd)(e:Instr.findNow kd k' ga 0=some r):
  (Instr.findKey kt k' ga).run P w= .ok r w:=by
 simp[Instr.findKey,eE hu,e]
theorem Ei(d:Nat)(hu:P.underlying kt=some kd)(rk:eH E k k')(e:Cn kd k=true):(Instr.checkKey b (d+1) kt k').run P w= .ok () w:=by
 unfold Cn at e;split at e
 . simp only[eH]at rk;subst rk;simp only[Instr.checkKey,Sem.run_bind,eE hu,Result.andThen_ok];rfl
 . simp only[eH]at rk;subst rk;simp only[Instr.checkKey,Sem.run_bind,eE hu,Result.andThen_ok];rfl
 . cases e
theorem jh(hu:P.underlying kt=some kd)(rk:eH E k k')(e:Cn kd k=true):(Instr.checkKey b 10000 kt k').run P w= .ok () w:=
 Ei 9999 hu rk e
end
theorem Nz{t:TypeId}{x k v:V}{ok:Bool}{x' k':Value}(g:Good E h w)(rx:eH E x x')(rk:eH E k k')(e:vH P t h x k ok=some v):
  ku P E h n w (do pure (.value (<- Instr.lookup t x' k' ok))) (.val v h n):=by
 unfold vH at e;split at e
 . rename_i kt et hu;split at e
   . rename_i kd z hk hz;split at e
     . rename_i r kk O L;split at e
       . rename_i kq FZ;split at e
         . rename_i U;simp only[ay]at U;simp only[aq]at e;obtain⟨z',D2,BC,_⟩:=lO (w:=w) E hz;obtain⟨b,ga,fA,hi,si,hr⟩:=yp g L;obtain⟨b',jX,rfl⟩:=rx;rw[hi]at jX;cases jX;have yq:=fU (P:=P) si (by intro _ _ _ q;cases q);have JV:=yl FZ U.1 U.2;have JW:=jh (P:=P) (w:=w) (b:=ga.isEmpty) hk rk JV;have hlk:=hr.look U.1 U.2 (pR FZ rk);cases hL:fL kq O with
           |none=>
            rw[hL]at hlk e;have gF:(Instr.lookup t (.map (some b)) k' ok).run P w= .ok (if ok then .tuple #[z',.bool false]else z') w:=by
             simp only[Instr.lookup,Sem.run_bind,eE hu,Result.andThen_ok,Sem.run_pure,yq,JW,iC hk hlk,D2]
            subst e;refine eS g (v':=if ok then .tuple #[z',.bool false]else z') (by rw[Sem.run_bind,gF];rfl) ?_;cases ok with
            |true=>exact⟨[z',.bool false],⟨z',_,BC,⟨.bool false,[],rfl,rfl,rfl⟩,rfl⟩,rfl⟩
            |false=>exact BC
           |some d=>
            rw[hL]at hlk e;obtain⟨j,v',q1,q2⟩:=hlk;have gF:(Instr.lookup t (.map (some b)) k' ok).run P w= .ok (if ok then .tuple #[v',.bool true]else v') w:=by
             simp only[Instr.lookup,Sem.run_bind,eE hu,Result.andThen_ok,Sem.run_pure,yq,JW,iC hk q1]
            subst e;refine eS g (v':=if ok then .tuple #[v',.bool true]else v') (by rw[Sem.run_bind,gF];rfl) ?_;cases ok with
            |true=>exact⟨[v',.bool true],⟨v',_,rT d v' q2,⟨.bool true,[],rfl,rfl,rfl⟩,rfl⟩,rfl⟩
            |false=>exact rT d v' q2
         . cases e
       . cases e
     rename_i x _ _ hnd;split at e
     . rename_i JV;obtain⟨z',D2,BC,_⟩:=lO (w:=w) E hz;have qI:∀(O:List (V×V×Nat)) (ga:Array MapEntry),kX E O ga.toList->(match uO kd k O 0 with
         |some (some (_,_,v,_))=>some (if ok then V.gK [v,.bool true]else v)
         |some none=>some (if ok then V.gK [z,.bool false]else z)
         |none=>none)=some v->
         ((Instr.findKey kt k' ga.toList).run P w= .ok none w/\eH E v (if ok then .tuple #[z',.bool false]else z')) \/
         ∃j v',(Instr.findKey kt k' ga.toList).run P w= .ok (some (j,v')) w/\eH E v (if ok then .tuple #[v',.bool true]else v'):=by
        intro O ga BT e;cases hf:uO kd k O 0 with
        |none=>simp[hf]at e
        |some r=>
         have hr:=vO rk O ga.toList 0 r BT hf;cases r with
         |none=>
          simp only[hf,aq]at e;subst e;refine .inl ⟨iC hk hr,?_⟩;cases ok with
          |true=>exact⟨[z',.bool false],⟨z',_,BC,⟨.bool false,[],rfl,rfl,rfl⟩,rfl⟩,rfl⟩
          |false=>exact BC
         |some q=>
          obtain⟨j,k0,v0,N⟩:=q;simp only[hf,aq]at e;subst e;obtain⟨e',_,_,_,_,_,a6,_,a8⟩:=hr;refine .inr ⟨j,e'.val,iC hk a8,?_⟩;cases ok with
          |true=>exact⟨[e'.val,.bool true],⟨e'.val,_,a6,⟨.bool true,[],rfl,rfl,rfl⟩,rfl⟩,rfl⟩
          |false=>exact a6
       cases x with
       |map m=>
        cases m with
        |none=>
         simp only at e;simp only[eH]at rx;subst rx;rcases qI [] #[] (by simp[kX]) e with⟨m1,m3⟩|⟨j,v',m1,m3⟩
         . refine eS g ?_ m3;simp only[Instr.lookup,Sem.run_bind,eE hu,Result.andThen_ok,Sem.run_pure,jh (b:=(#[]:Array MapEntry).isEmpty) hk rk JV,m1,D2]
         . refine eS g ?_ m3;simp only[Instr.lookup,Sem.run_bind,eE hu,Result.andThen_ok,Sem.run_pure,jh (b:=(#[]:Array MapEntry).isEmpty) hk rk JV,m1]
        |some m=>
         simp only at e;cases L:h.get m with
         |none=>simp[L]at e
         |some o=>
          cases o with
          |map O fA=>
           simp only[L]at e;obtain⟨b,ga,hi,U,BT⟩:=yo g L;obtain⟨b',jX,rfl⟩:=rx;rw[hi]at jX;cases jX;have yq:=fU (P:=P) U (by intro _ _ _ q;cases q);rcases qI O ga BT e with⟨m1,m3⟩|⟨j,v',m1,m3⟩
           . refine eS g ?_ m3;simp only[Instr.lookup,Sem.run_bind,eE hu,Result.andThen_ok,Sem.run_pure,yq,jh (b:=ga.isEmpty) hk rk JV,m1,D2]
           . refine eS g ?_ m3;simp only[Instr.lookup,Sem.run_bind,eE hu,Result.andThen_ok,Sem.run_pure,yq,jh (b:=ga.isEmpty) hk rk JV,m1]
          |_=>simp[L]at e
       |_=>simp at e
     . cases e
   . cases e
 . cases e
theorem pH{f:V×V×Nat->V×V×Nat}{f':MapEntry->MapEntry}(hf:∀x y,eH E x.1 y.key->eH E x.2.1 y.val->y.born=x.2.2->eH E (f x).1 (f' y).key/\eH E (f x).2.1 (f' y).val/\(f' y).born=(f x).2.2):
  ∀(xs:List (V×V×Nat)) (ys:List MapEntry) (i:Nat),kX E xs ys->kX E (iY xs i f) (ys.modify i f')
 | [],_,i,r=>by simp only[kX]at r;subst r;simp[iY,kX]
 |x::xs,_,i,r=>by
  obtain⟨y,ys,a,b,c,rs,rfl⟩:=r;cases i with
  |zero=>obtain⟨p,q,s⟩:=hf x y a b c;exact⟨f' y,ys,p,q,s,rs,by simp⟩
  |succ i=>exact⟨y,_,a,b,c,pH hf xs ys i rs,by simp⟩
theorem xe:∀(xs:List (V×V×Nat)) (ys:List MapEntry) (x:V×V×Nat) (y:MapEntry),kX E xs ys->eH E x.1 y.key->eH E x.2.1 y.val->y.born=x.2.2->kX E (xs++[x]) (ys++[y])
 | [],_,x,y,r,a,b,c=>by simp only[kX]at r;subst r;exact⟨y,[],a,b,c,rfl,rfl⟩
 |z::zs,_,x,y,r,a,b,c=>by
  obtain⟨y0,ys,a0,b0,c0,rs,rfl⟩:=r;exact⟨y0,_,a0,b0,c0,xe zs ys x y rs a b c,rfl⟩
theorem yu{m b fA clock':Nat}{O zy:List (V×V×Nat)}{ga uA:Array MapEntry}(g:Good E h w)(ir:m<gO)(L:h.get m=some (.map O fA))(hi:E.ι m=some (b,0))(U:w.heap[b]? =some (.map ga fA))
  (BT:kX E zy uA.toList):jt E h w E (h.set m (some (.map zy clock'))) { w with heap:=w.heap.setIfInBounds b (.map uA clock') }:=by
 have fj:b<w.heap.size:=(aY.1 U).1;refine jt.write g ir ⟨_,L,rfl⟩ hi (by simp) rfl rfl rfl (fun x K=>?_) ⟨rfl,uA,?_,BT⟩
 . simp[Ne.symm K]
 . simp[fj]
section
variable{m b fA clock':Nat}
theorem yw{kk:Option IntKind}{O zy:ae}{ga uA:Array MapEntry}(g:Good E h w)(ir:m<gO)(L:h.get m=some (.gL kk O))(hi:E.ι m=some (b,0))(U:w.heap[b]? =some (.map ga fA))
  (BT:kC E.φ kk zy uA.toList clock'):jt E h w E (h.set m (some (.gL kk zy))) { w with heap:=w.heap.setIfInBounds b (.map uA clock') }:=by
 have fj:b<w.heap.size:=(aY.1 U).1;refine jt.write g ir ⟨_,L,rfl⟩ hi (by simp) rfl rfl rfl (fun x K=>?_) ⟨rfl,uA,clock',?_,BT⟩
 . simp[Ne.symm K]
 . simp[fj]
theorem CI{kd:TypeDesc}{a b:V}{a' b':Value}(ra:eH E a a')(rb:eH E b b')(e:x3 kd a b=some true):(Instr.keyThatStays b' a').run P w= .ok a' w:=by
 have:Instr.sameBits 10000 b' a'=true:=by
  unfold x3 at e;split at e
  . simp only[eH]at ra rb;subst ra;subst rb;split at e
    . rename_i hk;simp only[aq,ct]at e;simp[Instr.sameBits,hk,e]
    . cases e
  . simp only[eH]at ra rb;subst ra;subst rb;simp only[aq]at e;simp only[Instr.sameBits];rw[kM]at e;have hab:_=_:=eq_of_beq e;subst hab;rw[rZ,kM];simp
  . cases e
 simp[Instr.keyThatStays,this]
theorem yx{t:TypeId}{m k v:V}{m' k' v':Value}{r:iX}(g:Good E h w)(rm:eH E m m')(rk:eH E k k')(rv:eH E v v')(e:s8 P t h n m k v=some r):
  ku P E h n w (do Instr.mapUpdate t m' k' v';pure .skip) r:=by
 unfold s8 at e;split at e
 . rename_i kt et m hu;split at e
   . rename_i kd O fA hk L;obtain⟨b,ga,hi,U,BT⟩:=yo g L;obtain⟨b',jX,rfl⟩:=rm;rw[hi]at jX;cases jX;have yq:=fU (P:=P) U (by intro _ _ _ q;cases q);have tq:∀o',(setObj b o').run P w= .ok () { w with heap:=w.heap.setIfInBounds b o' }:=fun o'=>kH (P:=P) U (by intro _ _ _ q;cases q);split at e
     . rename_i hq;obtain⟨JV,ir⟩:=hq;have JW:=jh (P:=P) (w:=w) (b:=false) hk rk JV;cases hf:uO kd k O 0 with
       |none=>simp[hf]at e
       |some q=>
        have hr:=vO rk O ga.toList 0 q BT hf;cases q with
        |none=>
         simp only[hf,aq]at e;subst e;have BS:=yu (clock':=fA+1) (zy:=O++[(k,v,fA)]) (uA:=ga.push { key:=k',val:=v',born:=fA }) g ir L hi U (by
          rw[Array.toList_push];exact xe O ga.toList (k,v,fA) { key:=k',val:=v',born:=fA } BT rk rv rfl)
         refine⟨E,_,undef,.inr ⟨?_,rfl⟩,⟨[],rfl,rfl⟩,BS,fun _ _=>rfl,.inl ⟨rfl,rfl⟩⟩;simp only[Instr.mapUpdate,Sem.run_bind,eE hu,Result.andThen_ok,yq,JW,iC hk hr,tq,Sem.run_pure]
        |some q=>
         obtain⟨j,e0⟩:=q;simp only[hf,aq]at e;subst e;obtain⟨e',a1,a2,a3,a4,a5,a6,a7,a8⟩:=hr;simp only[dz]at a2 a3;have PA:((ga[j]?).map (·.key)).getD k'=e'.key:=by rw[<- bU,a3];rfl
         have wm:=CI (P:=P) (w:=w) rk a5 a4;have BS:=yu (clock':=fA) (zy:=iY O j fun e=>(k,v,e.2.2)) (uA:=ga.modify j fun e=>{ e with key:=k',val:=v' }) g ir L hi U (by
          rw[Array.toList_modify];exact pH (f:=fun e=>(k,v,e.2.2)) (f':=fun e=>{ e with key:=k',val:=v' }) (fun x y p q s=>⟨rk,rv,s⟩) O ga.toList j BT)
         refine⟨E,_,undef,.inr ⟨?_,rfl⟩,⟨[],rfl,rfl⟩,BS,fun _ _=>rfl,.inl ⟨rfl,rfl⟩⟩;simp only[Instr.mapUpdate,Sem.run_bind,eE hu,Result.andThen_ok,yq,JW,iC hk a8,PA,wm,tq,Sem.run_pure]
     . cases e
   . rename_i kd kk O hk L;split at e
     . rename_i kq vq FZ hvq;split at e
       . rename_i U;simp only[ay,aU]at U;obtain⟨hd,Ij,ir⟩:=U;obtain rfl:=eZ e;obtain⟨b,ga,fA,hi,si,hr⟩:=yp g L;obtain⟨b',jX,rfl⟩:=rm;rw[hi]at jX;cases jX;have yq:=fU (P:=P) si (by intro _ _ _ q;cases q);have tq:∀o',(setObj b o').run P w= .ok () { w with heap:=w.heap.setIfInBounds b o' }:=fun o'=>kH (P:=P) si (by intro _ _ _ q;cases q);have JV:=yl FZ hd Ij;have JW:=jh (P:=P) (w:=w) (b:=false) hk rk JV;rcases hr.CH hd Ij (pR FZ rk) (x7 hvq rv).1 with⟨q1,q2⟩|⟨j,e',q1,q2,q3,q4⟩
         . refine⟨E,_,undef,.inr ⟨?_,rfl⟩,⟨[],rfl,rfl⟩,yw g ir L hi si q2,fun _ _=>rfl,.inl ⟨rfl,rfl⟩⟩;simp only[Instr.mapUpdate,Sem.run_bind,eE hu,Result.andThen_ok,yq,JW,iC hk q1,tq,Sem.run_pure]
         . have PA:((ga[j]?).map (·.key)).getD k'=e'.key:=by rw[q2];rfl
           have wm:(Instr.keyThatStays e'.key k').run P w= .ok k' w:=by
            have r1:=pR FZ rk;have:e'.key=k':=by
             cases kq<;>first|(simp only[lF]at q3 r1;rw[q3,r1])|(unfold keyOf at FZ;split at FZ<;>cases FZ)
            rw[this];refine CI rk rk (kd:=kd) ?_;have avm:=(jK Ij Ij).2 rfl;unfold keyOf at FZ;split at FZ<;>first|cases FZ|skip
            . cases kd<;>cases kk<;>simp only[lJ,gS,aM]at hd Ij;simp[x3]
            . cases kd<;>cases kk<;>simp only[lJ,gS,aM]at hd Ij;simp only[x3,kM];simp
           refine⟨E,_,undef,.inr ⟨?_,rfl⟩,⟨[],rfl,rfl⟩,yw g ir L hi si q4,fun _ _=>rfl,.inl ⟨rfl,rfl⟩⟩;simp only[Instr.mapUpdate,Sem.run_bind,eE hu,Result.andThen_ok,yq,JW,iC hk q1,PA,wm,tq,Sem.run_pure]
       . cases e
     . cases e
   . cases e
 . cases e
theorem NA{eW:Array TypeId}{ty:TypeId}{args:ag}{dZ:List Value}{r:iX}(g:Good E h w)(ra:eK E args dZ)(ha:eW.size=2)(e:FF P eW args h n=some r):
  ku P E h n w (do pure (.value (<- Builtin.delete_ eW ty dZ.toArray))) r:=by
 unfold FF at e;split at e
 . rename_i t m k h1;obtain⟨m',_,rm,⟨k',_,rk,mg,rfl⟩,rfl⟩:=ra;simp only[eK]at mg;subst mg;split at e
   . rename_i kt et hu;split at e
     . rename_i kd kk O kq hk L FZ;split at e
       . rename_i U;simp only[ay,aU]at U;obtain⟨hd,Ij,ir⟩:=U;obtain rfl:=eZ e;obtain⟨b,ga,fA,hi,si,hr⟩:=yp g L;obtain⟨b',jX,rfl⟩:=rm;rw[hi]at jX;cases jX;have yq:=fU (P:=P) si (by intro _ _ _ q;cases q);have tq:∀o',(setObj b o').run P w= .ok () { w with heap:=w.heap.setIfInBounds b o' }:=fun o'=>kH (P:=P) si (by intro _ _ _ q;cases q);have JV:=yl FZ hd Ij;have JW:=jh (P:=P) (w:=w) (b:=ga.isEmpty) hk rk JV;rcases hr.del hd Ij (pR FZ rk)with⟨q1,q2⟩|⟨j,e',q1,q2⟩
         . refine⟨E,_,.tuple #[],.inl ?_,⟨[],rfl,rfl⟩,yw g ir L hi si q2,fun _ _=>rfl,.inl ⟨rfl,rfl⟩⟩;simp[Builtin.delete_,h1,eE hu,yq,JW,iC hk q1,tq]
         . refine⟨E,_,.tuple #[],.inl ?_,⟨[],rfl,rfl⟩,yw g ir L hi si q2,fun _ _=>rfl,.inl ⟨rfl,rfl⟩⟩;simp[Builtin.delete_,h1,eE hu,yq,JW,iC hk q1,tq]
       . cases e
     . cases e
   . cases e
 . cases e
theorem Ik{m:Nat}{kk:Option IntKind}{O:ae}(g:Good E h w)(L:h.get m=some (.oW kk O)):
  ∃b ga,E.ι m=some (b,0)/\w.heap[b]? =some (.map ga O.length)/\me E.φ kk O ga.toList:=by
 obtain⟨b,s,hi,hs,ga,h1,C⟩:=g.rel m _ L;subst hs;exact⟨b,ga,hi,h1,C⟩
theorem Il{kk:Option IntKind}{O zy:ae}{ga uA:Array MapEntry}(g:Good E h w)(ir:m<gO)(L:h.get m=some (.oW kk O))(hi:E.ι m=some (b,0))(U:w.heap[b]? =some (.map ga fA))
  (A:clock'=zy.length) (BT:me E.φ kk zy uA.toList):jt E h w E (h.set m (some (.oW kk zy))) { w with heap:=w.heap.setIfInBounds b (.map uA clock') }:=by
 subst A;have fj:b<w.heap.size:=(aY.1 U).1;refine jt.write g ir ⟨_,L,rfl⟩ hi (by simp) rfl rfl rfl (fun x K=>?_) ⟨rfl,uA,?_,BT⟩
 . simp[Ne.symm K]
 . simp[fj]
end
theorem me.push{φ:Nat->Option (Array Value)}{kk:Option IntKind}{O:ae}{ga:Array MapEntry}{k v:D}{k' v':Value}(r:me φ kk O ga.toList)(hk:gS kk k=true)(hn:k∉O.map (·.1))(rk:lF φ k k')(rv:lF φ v v'):
  me φ kk (O++[(k,v)]) (ga.push { key:=k',val:=v',born:=O.length }).toList:=by
 rw[Array.toList_push];refine⟨xb O ga.toList (k,v) _ r.row rk rv,?_,fun e he=>?_,?_⟩
 . rw[bL];exact List.nodup_append.2 ⟨r.keys,by simp,fun a ha b U=>by simp at U;subst U;intro q;subst q;exact hn ha⟩
 . rcases bj.1 he with q|q
   . exact r.kind e q
   . rw[aI]at q;subst q;exact hk
 . rw[bL,r.born,az,bS,List.range_succ];rfl
theorem xg{α:Type}(f:α->α):∀(l:List α) (i:Nat),(iY l i f).length=l.length/\∀x∈iY l i f,x∈l\/∃y∈l,x=f y
 | [],_=>⟨rfl,fun x K=>.inl K⟩
 |a::l,0=>⟨rfl,fun x K=>by
  simp only[iY,aA]at K;rcases K with q|q
  . exact .inr ⟨a,by simp,q⟩
  . exact .inl (by simp[q])⟩
 |a::l,i+1=>by
  obtain⟨h1,C⟩:=xg f l i;refine⟨by simp only[iY,aN,h1],fun x K=>?_⟩;simp only[iY,aA]at K;rcases K with q|q
  . exact .inl (by simp[q])
  . rcases C x q with q|⟨y,hy,q⟩
    . exact .inl (by simp[q])
    . exact .inr ⟨y,by simp[hy],q⟩
theorem uZ(v:D):∀(l:ae) (i:Nat),(iY l i fun e=>(e.1,v)).map (·.1)=l.map (·.1)
 | [],_=>rfl
 |_::_,0=>rfl
 |a::l,i+1=>by simp only[iY,b9,uZ v l i]
theorem EN{φ:Nat->Option (Array Value)}{v:D}{v':Value}(rv:lF φ v v'):∀(l:ae) (O:List MapEntry) (i:Nat),kY φ l O->kY φ (iY l i fun e=>(e.1,v)) (O.modify i fun e=>{ e with val:=v' })
 | [],_,i,r=>by simp only[kY]at r;subst r;simp[kY,iY]
 |a::l,_,i,r=>by
  obtain⟨y,ys,r1,r2,rs,rfl⟩:=r;cases i with
  |zero=>exact⟨{ y with val:=v' },ys,r1,rv,rs,by simp⟩
  |succ i=>exact⟨y,_,r1,r2,EN rv l ys i rs,by simp⟩
theorem me.val{φ:Nat->Option (Array Value)}{kk:Option IntKind}{O:ae}{ga:Array MapEntry}{v:D}{v':Value}(i:Nat)(r:me φ kk O ga.toList)(rv:lF φ v v'):
  me φ kk (iY O i fun e=>(e.1,v)) (ga.modify i fun e=>{ e with val:=v' }).toList:=by
 rw[Array.toList_modify];refine⟨EN rv O ga.toList i r.row,by rw[uZ];exact r.keys,fun e he=>?_,?_⟩
 . have:e.1∈(iY O i fun e=>(e.1,v)).map (·.1):=bP.2 ⟨e,he,rfl⟩;rw[uZ]at this;obtain⟨x,K,q⟩:=bP.1 this;rw[<- q];exact r.kind x K
 . rw[(xg _ O i).1,<- r.born];apply List.ext_getElem?;intro j;simp only[bD,List.getElem?_modify];by_cases Pz:i=j
   . simp[Pz];cases ga.toList[j]? <;>rfl
   . simp[Pz]
theorem me.at{φ:Nat->Option (Array Value)}{kk:Option IntKind}{O:ae}{ga:Array MapEntry}{b:Int}(r:me φ kk O ga.toList)(h0:0<=b)(h1:b<O.length):ga.findIdx? (fun e=>(e.born:Int)==b)=some b.toNat:=by
 have q:=List.findIdx?_toArray (fun(e:MapEntry)=>(e.born:Int)==b) ga.toList;rw[Array.toArray_toList]at q;rw[q,bW];have hl:=aG List.length r.born;rw[bM,List.length_range]at hl;have hg:∀(j:Nat) (hj:j<ga.toList.length),(ga.toList[j]).born=j:=fun j hj=>by
  have:=aG (fun l=>l[j]?) r.born;simp only[bD,au hj]at this;rw[au (by rw[List.length_range];omega),List.getElem_range]at this;simpa using this
 refine⟨S,?_,fun j hj=>?_⟩
 . rw[hg];simp;omega
 . rw[hg];simp;omega
theorem Im{t:TypeId}{m k:V}{m' k':Value}{r:iX}(g:Good E h w)(rm:eH E m m')(rk:eH E k k')(e:vI P t h n m k=some r):
  ku P E h n w (do pure (.value (<- Instr.mapEntry t m' k'))) r:=by
 unfold vI at e;split at e
 . rename_i kt et m hu;split at e
   . rename_i kd O fA z hk L hz;obtain⟨b,ga,hi,U,BT⟩:=yo g L;obtain⟨b',jX,rfl⟩:=rm;rw[hi]at jX;cases jX;have yq:=fU (P:=P) U (by intro _ _ _ q;cases q);have tq:∀o',(setObj b o').run P w= .ok () { w with heap:=w.heap.setIfInBounds b o' }:=fun o'=>kH (P:=P) U (by intro _ _ _ q;cases q);obtain⟨z',D2,BC,_⟩:=lO (w:=w) E hz;split at e
     . rename_i hq;obtain⟨JV,ir⟩:=hq;have JW:=jh (P:=P) (w:=w) (b:=false) hk rk JV;cases hf:uO kd k O 0 with
       |none=>simp[hf]at e
       |some q=>
        have hr:=vO rk O ga.toList 0 q BT hf;cases q with
        |none=>
         simp only[hf,aq]at e;subst e;have BS:=yu (clock':=fA+1) (zy:=O++[(k,z,fA)]) (uA:=ga.push { key:=k',val:=z',born:=fA }) g ir L hi U (by
          rw[Array.toList_push];exact xe O ga.toList (k,z,fA) { key:=k',val:=z',born:=fA } BT rk BC rfl)
         refine⟨E,_,.tuple #[z',.int .i64 fA],.inl ?_,⟨[z',.int .i64 fA],⟨z',_,BC,⟨.int .i64 fA,[],rfl,rfl,rfl⟩,rfl⟩,rfl⟩,BS,fun _ _=>rfl,.inl ⟨rfl,rfl⟩⟩;simp only[Instr.mapEntry,Sem.run_bind,eE hu,Result.andThen_ok,yq,JW,iC hk hr,D2,tq,Sem.run_pure,goInt]
        |some q=>
         obtain⟨j,e0⟩:=q;simp only[hf,aq]at e;subst e;obtain⟨e',a1,a2,a3,a4,a5,a6,a7,a8⟩:=hr;simp only[dz]at a2 a3;have PA:((ga[j]?).map (·.key)).getD k'=e'.key:=by rw[<- bU,a3];rfl
         have L8:(Option.map (fun x=>(x.born:Int)) ga[j]?).getD 0=(e0.2.2:Int):=by rw[<- bU,a3];exact aG _ a7
         have wm:=CI (P:=P) (w:=w) rk a5 a4;have BS:=yu (clock':=fA) (zy:=iY O j fun e=>(k,e.2.1,e.2.2)) (uA:=ga.modify j fun e=>{ e with key:=k' }) g ir L hi U (by
          rw[Array.toList_modify];exact pH (f:=fun e=>(k,e.2.1,e.2.2)) (f':=fun e=>{ e with key:=k' }) (fun x y p q s=>⟨rk,q,s⟩) O ga.toList j BT)
         refine⟨E,_,.tuple #[e'.val,.int .i64 e0.2.2],.inl ?_,⟨[e'.val,.int .i64 e0.2.2],⟨e'.val,_,a6,⟨.int .i64 e0.2.2,[],rfl,rfl,rfl⟩,rfl⟩,rfl⟩,BS,fun _ _=>rfl,.inl ⟨rfl,rfl⟩⟩;simp only[Instr.mapEntry,Sem.run_bind,eE hu,Result.andThen_ok,yq,JW,iC hk a8,PA,L8,wm,tq,Sem.run_pure,goInt]
     . cases e
   . rename_i kd kk O z hk L hz;split at e
     case h_2=>cases e
     rename_i kq z0 FZ L6;split at e
     case h_2=>cases e
     rename_i hL;split at e
     case isFalse=>cases e
     rename_i U;simp only[ay,aU]at U;obtain⟨hd,Ij,ir⟩:=U;obtain rfl:=eZ e;obtain⟨b,ga,hi,si,hr⟩:=Ik g L;obtain⟨b',jX,rfl⟩:=rm;rw[hi]at jX;cases jX;have yq:=fU (P:=P) si (by intro _ _ _ q;cases q);have tq:∀o',(setObj b o').run P w= .ok () { w with heap:=w.heap.setIfInBounds b o' }:=fun o'=>kH (P:=P) si (by intro _ _ _ q;cases q);obtain⟨z',D2,BC,_⟩:=lO (w:=w) E hz;have JV:=yl FZ hd Ij;have JW:=jh (P:=P) (w:=w) (b:=false) hk rk JV;have hf:=sj hd Ij (pR FZ rk) O ga.toList 0 hr.row hr.kind;rw[hL]at hf;obtain⟨q1,_,_,q4⟩:=hf;have BS:=Il (clock':=O.length+1) (zy:=O++[(kq,z0)]) (uA:=ga.push { key:=k',val:=z',born:=O.length }) g ir L hi si (by simp) (hr.push Ij q4 (pR FZ rk) (x7 L6 BC).1);refine⟨E,_,.tuple #[z',.int .i64 O.length],.inl ?_,⟨[z',.int .i64 O.length],⟨z',_,BC,⟨.int .i64 O.length,[],rfl,rfl,rfl⟩,rfl⟩,rfl⟩,BS,fun _ _=>rfl,.inl ⟨rfl,rfl⟩⟩;simp only[Instr.mapEntry,Sem.run_bind,eE hu,Result.andThen_ok,yq,JW,iC hk q1,D2,tq,Sem.run_pure,goInt]
   . cases e
 . cases e
section
variable{eW:Array TypeId}{ty:TypeId}
theorem F0{m o l kg z:Nat}{dZ:List Value}(g:Good E h w)(ra:eK E [.fk (some (m,o)) l kg z] dZ)(A:0<kg):
  ku P E h n w (do pure (.value (<- Builtin.unsafeSliceData_ eW ty dZ.toArray))) (.val (.ptr (some (m,o))) h n):=by
 obtain⟨x',_,⟨b,s,o',gZ,h1,C,h3,h4,h5,rfl⟩,mg,rfl⟩:=ra;simp only[eK]at mg;subst mg;have:=C A;subst this;refine eS g (v':=.pointer (some ⟨b,s+o,none⟩)) ?_ ⟨b,s,h1,rfl⟩;rw[Sem.run_bind,Lib.run_unsafeSliceData_row w eW ty ⟨b,s+o,none⟩ l gZ S];rfl
theorem BD{pt e:TypeId}{m:Nat}{l:Int}{AM:Bool}{t:aa}{dZ:List Value}(g:Good E h w)(ra:eK E [.ptr (some (m,0)),.int .i64 l] dZ)(Wt:eW[0]? =some pt)(ha:eW.size=2)(hp:P.underlying pt=some (.pointer e))
  (L:h.get m=some (.wh e AM t)) (hl:l=t.length) (h0:0<t.length) (hce:P.cellsOf e=1) (ir:m<gO) (h63:t.length<=wV):
  ku P E h n w (do pure (.value (<- Builtin.unsafeString_ eW ty dZ.toArray))) (.val (.str t) (h.set m (some (.wh e true t))) n):=by
 obtain⟨x',_,⟨b,s,h1,rfl⟩,⟨y',_,r2,mg,rfl⟩,rfl⟩:=ra;simp only[eK]at mg;subst mg;simp only[eH]at r2;subst r2;obtain⟨b',T,oU,c,fz,xs,si,hs,nc,⟨Ed,Kn⟩,CD,oH⟩:=g.rel m _ L;rw[h1]at oU;cases oU;subst hs;have Km:xs.length=t.length:=by rw[<- CD];simp[nQ]
 have qH:t.length<=c.size:=by
  have C:=oH (t.length-1) (xs[t.length-1]'(by omega)) (au S);have:=(aY.1 C).1;omega
 have nJ:eW=#[pt,eW[1]'(by omega)]:=by
  apply Array.ext
  . simpa using ha
  . intro i q1 q2;have:i=0\/i=1:=by simp at q2;omega
    rcases this with rfl|rfl
    . rw[bg q1]at Wt;simpa using Wt
    . rfl
 have hlb:∀(l:List Int) (k:Nat) (EG:ByteArray),(∀(j:Nat) (x:Int),l[j]? =some x->c[k+j]? =some (.int .u8 x))->(loadBytes ⟨b,k,none⟩ EG l.length).run P w= .ok ⟨EG.data++(nQ l).toArray⟩ w:=by
  intro l
  induction l with
  |nil=>intro k EG _;simp[loadBytes,nQ]
  |cons x l ih=>
   intro k EG hh;have e0:=hh 0 x rfl;simp only[aN,loadBytes,Sem.run_bind,run_load,Addr.jw];rw[show(⟨b,k,none⟩:Addr)=⟨b,k+0,none⟩from rfl,nq si,e0];simp only[Result.andThen_ok];rw[ih (k+0+1) _ (fun j y hy=>by have:=hh (j+1) y (by simpa using hy);rw[<- this];congr 1;omega)];congr 1;simp[nQ,ByteArray.push]
 have ac1:=hlb xs 0 .empty (fun j x K=>by rw[bI];exact oH j x K);rw[Km,CD]at ac1;have hsh:w.shape? b=some (e,c.size):=by simp[World.shape?,si]
 have ac2:=Lib.liesAt_bytes (P:=P) hce (c.size/P.cellsOf e) t.length (by rw[hce];simpa using qH);have D1:t.length≠0:=by omega
 have ajJ:¬(9223372036854775807:Int)<(t.length:Int):=by unfold wV at h63;omega
 have ajK:IntKind.i64.max=9223372036854775807:=rfl;have ajL:¬(t.length:Int)<0:=by omega
 have hun:=hp;have gF:(Builtin.unsafeString_ eW ty #[.pointer (some ⟨b,0,none⟩),.int .i64 t.length]).run P w= .ok (.string ⟨t.toArray⟩) (w.freeze ⟨b,0,none⟩ t.length):=by
  rw[nJ];have ajM:Builtin.unsafeString_ #[pt,eW[1]'(by omega)] ty #[.pointer (some ⟨b,0,none⟩),.int .i64 t.length]=
   (do
    let n <- asInt (.int .i64 t.length)
    if n<0 then runtimePanic (.error "unsafe.String: len out of range")
    if n>IntKind.i64.max then unsupported (.unsafePointer "String: a length above the largest int")
    if n=0 then pure (.string .empty)
    else if <- variablesAt ⟨b,0,none⟩ (<- elemOf pt) n.toNat then do
     let s <- loadBytes ⟨b,0,none⟩ .empty n.toNat
     freeze ⟨b,0,none⟩ n.toNat
     pure (.string s)
    else unsupported (.unsafePointer "String: not so many bytes at ptr")):=rfl
  rw[ajM];simp[asInt,asIntOf,ajK,ajJ,ajL,D1,variablesAt,hsh,elemOf,eE hp,ac2,ac1]
  done
 have h00:(0:Nat)+0=0:=rfl;refine⟨E,w.freeze ⟨b,0,none⟩ t.length,.string ⟨t.toArray⟩,.inl ?_,rfl,?_,fun _ _=>rfl,.inl ⟨rfl,rfl⟩⟩
 . rw[Sem.run_bind,h00,hl];rw[gF];rfl
 . have FO:fu h m:=⟨_,L,rfl⟩;have hbs:b<w.heap.size:=(aY.1 si).1;refine jt.write g ir FO h1 (by unfold World.freeze;rw[aD D1];simp) (by unfold World.freeze;rw[aD D1]) (by unfold World.freeze;rw[aD D1]) (by unfold World.freeze;rw[aD D1]) (fun x K=>by unfold World.freeze;rw[aD D1];simp only[Array.getElem?_modify];rw[aD (Ne.symm K)]) ?_;refine⟨c,(if fz.1==fz.2 then(0,0+t.length)else(min fz.1 0,max fz.2 (0+t.length))),xs,by unfold World.freeze;rw[aD D1];simp[Array.getElem?_modify,si],rfl,nc,⟨.inr ?_,fun q=>by simp at q⟩,CD,oH⟩;split
   . simp
   . rename_i q;have:¬fz.1=fz.2:=by simpa using q
     simp only[bI];omega
end
theorem CJ{b:Int}:∀(xs:List (V×V×Nat)) (ys:List MapEntry) (i j:Nat),kX E xs ys->zH b xs i=some j->i<=j/\ys.findIdx? (fun e=>(e.born:Int)==b)=some (j-i)
 | [],_,i,j,r,e=>by simp[zH]at e
 |x::xs,_,i,j,r,e=>by
  obtain⟨y,ys,_,_,c,rs,rfl⟩:=r;simp only[zH]at e;split at e
  . rename_i U;obtain rfl:=eZ e;refine⟨aK _,?_⟩;rw[List.findIdx?_cons,aF (by rw[c];exact U)];simp
  . rename_i U;obtain⟨h1,C⟩:=CJ xs ys (i+1) j rs e;refine⟨S,?_⟩;rw[List.findIdx?_cons,aD (by rw[c];exact U),C];simp;omega
section
variable{t:TypeId}{h':I es}{x:V}{n':Nat}{x':Value}{r:iX}
theorem Ej{m s v:V}{m' T v':Value}{r:iX}(g:Good E h w)(rm:eH E m m')(rs:eH E s T)(rv:eH E v v')(e:qN h n m s v=some r):
  ku P E h n w (do Instr.entryStore t m' T v';pure .skip) r:=by
 unfold qN at e;split at e
 . rename_i m k b0;simp only[eH]at rs;subst rs;split at e
   . rename_i O fA L;obtain⟨b,ga,hi,U,BT⟩:=yo g L;obtain⟨b',jX,rfl⟩:=rm;rw[hi]at jX;cases jX;have yq:=fU (P:=P) U (by intro _ _ _ q;cases q);have tq:∀o',(setObj b o').run P w= .ok () { w with heap:=w.heap.setIfInBounds b o' }:=fun o'=>kH (P:=P) U (by intro _ _ _ q;cases q);split at e
     . rename_i ir;cases hf:zH b0 O 0 with
       |none=>simp[hf]at e
       |some j=>
        simp only[hf,aq]at e;subst e;obtain⟨_,C⟩:=CJ O ga.toList 0 j BT hf;have h3:ga.findIdx? (fun e=>(e.born:Int)==b0)=some j:=by
         have q:=List.findIdx?_toArray (fun(e:MapEntry)=>(e.born:Int)==b0) ga.toList;rw[Array.toArray_toList]at q;rw[q];simpa using C
        have BS:=yu (clock':=fA) (zy:=iY O j fun e=>(e.1,v,e.2.2)) (uA:=ga.modify j fun e=>{ e with val:=v' }) g ir L hi U (by
         rw[Array.toList_modify];exact pH (f:=fun e=>(e.1,v,e.2.2)) (f':=fun e=>{ e with val:=v' }) (fun x y p q s=>⟨p,rv,s⟩) O ga.toList j BT)
        refine⟨E,_,undef,.inr ⟨?_,rfl⟩,⟨[],rfl,rfl⟩,BS,fun _ _=>rfl,.inl ⟨rfl,rfl⟩⟩;simp only[Instr.entryStore,Sem.run_bind,yq,Result.andThen_ok,asInt,asIntOf,Sem.run_pure,h3,tq]
     . cases e
   . rename_i kk O L;split at e
     case h_2=>cases e
     rename_i v0 PB;split at e
     case isFalse=>cases e
     rename_i hq;obtain⟨ir,hb0,Tf⟩:=hq;obtain rfl:=eZ e;obtain⟨b,ga,hi,si,hr⟩:=Ik g L;obtain⟨b',jX,rfl⟩:=rm;rw[hi]at jX;cases jX;have yq:=fU (P:=P) si (by intro _ _ _ q;cases q);have tq:∀o',(setObj b o').run P w= .ok () { w with heap:=w.heap.setIfInBounds b o' }:=fun o'=>kH (P:=P) si (by intro _ _ _ q;cases q);have h3:=hr.at hb0 Tf;have BS:=Il (clock':=O.length) (zy:=iY O b0.toNat fun e=>(e.1,v0)) (uA:=ga.modify b0.toNat fun e=>{ e with val:=v' }) g ir L hi si (xg _ O _).1.symm (hr.val _ (x7 PB rv).1);refine⟨E,_,undef,.inr ⟨?_,rfl⟩,⟨[],rfl,rfl⟩,BS,fun _ _=>rfl,.inl ⟨rfl,rfl⟩⟩;simp only[Instr.entryStore,Sem.run_bind,yq,Result.andThen_ok,asInt,asIntOf,Sem.run_pure,h3,tq]
   . cases e
 . cases e
theorem AY{s:Sem Next}{o:es}{ob:Obj}{v:V}{v':Value}(g:Good E h w)(hn:E.ι n=none)(e:newObj h n o=some (h',n'))
  (ho:∀E1 w1,w1.heap[w.heap.size]? =some ob->nT E1 w1 w.heap.size 0 o) (hr:s.run P w= .ok (.value v') (w.alloc ob)) (hv:eH (E.put n w.heap.size 0 (kD ob)) v v'):ku P E h n w s (.val v h' n'):=by
 obtain⟨ir,rfl,rfl⟩:=k9 e;exact⟨_,_,v',.inl hr,hv,jt.alloc g hn ir (ho _ _ heap_alloc_new),fun m L=>Env.iF L,.inr rfl⟩
theorem Kp(g:Good E h w)(hn:E.ι n=none)(e:newObj h n (.map [] 0)=some (h',n')):
  ku P E h n w (do pure (.value (<- Instr.makeMap t none))) (.val (.map (some n)) h' n'):=by
 refine AY (ob:=.map #[] 0) (v':=.map (some w.heap.size)) g hn e (fun E1 w1 q=>⟨rfl,#[],q,by simp[kX]⟩) ?_ ⟨w.heap.size,Env.gl,rfl⟩;simp[Instr.makeMap]
theorem PC(g:Good E h w)(hn:E.ι n=none)(rx:eH E x x')(e:Cp P t x h n=some r):
  ku P E h n w (do pure (.value (<- Instr.range t x'))) r:=by
 unfold Cp at e;split at e
 . rename_i s hu;simp only[eH]at rx;subst rx;cases ho:newObj h n (.nM s 0)with
   |none=>simp[ho]at e
   |some p=>
    obtain⟨h',n'⟩:=p;simp only[ho,aq]at e;subst e;refine AY (ob:=.stringIter ⟨s.toArray⟩ 0) (v':=.pointer (some ⟨w.heap.size,0,none⟩)) g hn ho (fun E1 w1 q=>⟨rfl,q⟩) ?_ ⟨w.heap.size,0,Env.gl,by simp⟩;simp[Instr.range,eE hu]
 . cases e
theorem TS{b:Bool}{t:TypeId}{x':Value}{r:iX}(g:Good E h w)(rx:eH E x x')(e:O9 x b h n=some r):
  ku P E h n w (do pure (.value (<- Instr.next x' b t))) r:=by
 unfold O9 at e;split at e
 . rename_i m;obtain⟨b0,s0,hi,rfl⟩:=rx;split at e
   . rename_i s pos L;obtain⟨b1,s1,hi1,pQ,U⟩:=g.rel m _ L;rw[hi]at hi1;cases hi1;subst pQ;have yq:=fU (P:=P) U (by intro _ _ _ q;cases q);have tq:∀o',(setObj b0 o').run P w= .ok () { w with heap:=w.heap.setIfInBounds b0 o' }:=fun o'=>kH (P:=P) U (by intro _ _ _ q;cases q);have fj:b0<w.heap.size:=(aY.1 U).1;have nc:(⟨s.toArray⟩:ByteArray).size=s.length:=by show s.toArray.size=_;simp
     split at e
     . rename_i hp;simp only at e;split at e
       . rename_i ir;obtain rfl:=eZ e;have BS:jt E h w E (h.set m (some (.nM s (pos+(Utf8.decode ⟨s.toArray⟩ pos).2)))) { w with heap:=w.heap.setIfInBounds b0 (.stringIter ⟨s.toArray⟩ (pos+(Utf8.decode ⟨s.toArray⟩ pos).2)) }:=by
          refine jt.write g ir ⟨_,L,rfl⟩ hi (by simp) rfl rfl rfl (fun x K=>?_) ⟨rfl,?_⟩
          . simp[Ne.symm K]
          . simp[fj]
         refine⟨E,_,.tuple #[.bool true,.int .i64 pos,.int .i32 (Utf8.decode ⟨s.toArray⟩ pos).1],.inl ?_,⟨[.bool true,.int .i64 pos,.int .i32 (Utf8.decode ⟨s.toArray⟩ pos).1],⟨_,_,rfl,⟨_,_,rfl,⟨_,_,rfl,rfl,rfl⟩,rfl⟩,rfl⟩,rfl⟩,BS,fun _ _=>rfl,.inl ⟨rfl,rfl⟩⟩;simp[Instr.next,yq,nc,hp,tq,goInt]
       . cases e
     . rename_i hp;obtain rfl:=eZ e;refine eS g (v':=.tuple #[.bool false]) ?_ ⟨[.bool false],⟨_,_,rfl,rfl,rfl⟩,rfl⟩;simp[Instr.next,yq,nc,hp]
   . cases e
 . cases e
end
end
section
variable{P:Program}{E:Env}{h:I es}{n:Nat}{w:World}{F:I V}{ρ:Operand->Value}
section
variable{eW:Array TypeId}{ty:TypeId}
theorem Io{l kg z:Nat}{dZ:List Value}(g:Good E h w)(ra:eK E [.fk none l kg z] dZ):
  ku P E h n w (do pure (.value (<- Builtin.unsafeSliceData_ eW ty dZ.toArray))) (.val (.ptr none) h n):=by
 obtain⟨x',_,⟨_,_,rfl⟩,mg,rfl⟩:=ra;simp only[eK]at mg;subst mg;refine eS g (v':=.pointer none) ?_ rfl;rw[Sem.run_bind,Lib.run_unsafeSliceData_nil];rfl
theorem xh{pt:TypeId}{dZ:List Value}(g:Good E h w)(ra:eK E [.ptr none,.int .i64 0] dZ)(Wt:eW[0]? =some pt)(ha:eW.size=2):
  ku P E h n w (do pure (.value (<- Builtin.unsafeString_ eW ty dZ.toArray))) (.val (.str []) h n):=by
 obtain⟨x',_,r1,⟨y',_,r2,mg,rfl⟩,rfl⟩:=ra;simp only[eK]at mg;subst mg;simp only[eH]at r1 r2;subst r1;subst r2;have nJ:eW=#[pt,eW[1]'(by omega)]:=by
  apply Array.ext
  . simp[ha]
  . intro i h1 C;have:i=0\/i=1:=by omega
    rcases this with rfl|rfl
    . have:=(aY.1 Wt).2;simpa using this
    . rfl
 refine eS g (v':=.string ⟨#[]⟩) ?_ rfl;rw[Sem.run_bind,nJ];have:=Lib.run_unsafeString_none (P:=P) w pt (eW[1]'(by omega)) ty none;simp only[List.toArray]at this ⊢;rw[this];rfl
end
def nv(E:Env)(F:I V)(ρ:Operand->Value)(x:Operand):Prop:=∀v,jn F x=some v->eH E v (ρ x)
theorem u0:∀(xs:List Operand) (vs:ag),(∀x∈xs,nv E F ρ x)->uS F xs=some vs->eK E vs (xs.map ρ)
 | [],vs,_,e=>by simp only[uS,aq]at e;subst e;rfl
 |x::xs,vs,hr,e=>by
  simp only[uS]at e;cases h1:jn F x with
  |none=>simp[h1]at e
  |some v=>cases C:uS F xs with
   |none=>simp[h1,C]at e
   |some r=>
    simp only[h1,C,aq]at e;subst e;exact⟨ρ x,xs.map ρ,hr x (by simp) v h1,u0 xs r (fun y hy=>hr y (by simp[hy])) C,rfl⟩
theorem tr:∀(xs:List (Nat×Operand)) (vs:List (Nat×V)),(∀x∈xs.map (·.2),nv E F ρ x)->p9 F xs=some vs->AR E vs (xs.map fun x=>(x.1,ρ x.2))
 | [],vs,_,e=>by simp only[p9,aq]at e;subst e;rfl
 |(i,x)::xs,vs,hr,e=>by
  simp only[p9]at e;cases h1:jn F x with
  |none=>simp[h1]at e
  |some v=>cases C:p9 F xs with
   |none=>simp[h1,C]at e
   |some r=>
    simp only[h1,C,aq]at e;subst e;exact⟨(i,ρ x),_,rfl,hr x (by simp) v h1,tr xs r (fun y hy=>hr y (by simp at hy ⊢;exact .inr hy)) C,rfl⟩
theorem xj{x:Option Operand}{v:Option V}(hr:∀y,x=some y->nv E F ρ y)(e:mM F x=some v):n7 E v (x.map ρ):=by
 cases x with
 |none=>simp only[mM,aq]at e;subst e;rfl
 |some x=>
  simp only[mM]at e;cases h1:jn F x with
  |none=>simp[h1]at e
  |some y=>simp only[h1,aq]at e;subst e;exact⟨ρ x,hr x rfl y h1,rfl⟩
theorem gz{v:Option V}{r:iX}(e:kK h n v=some r):∃x,v=some x/\r= .val x h n:=by
 cases v with
 |none=>simp[kK]at e
 |some x=>simp only[kK,aq]at e;exact⟨x,rfl,e.symm⟩
theorem tu{f:FuncId}{args:Array Value}(A:callee P f=true):(callFunc f args).run P w= .ok (.enter f args) w:=by
 unfold callee at A;split at A
 . rename_i fn hf;simp only[ay,bne_iff_ne,ne_eq]at A;obtain⟨h1,C⟩:=A;have h3:fn.body.isNone=false:=by cases U:fn.body<;>simp_all
   have h4:(fn.name == "runtime.NumGoroutine")=false:=by simpa using C
   simp only[callFunc,Sem.run_bind,run_program,Result.andThen_ok,hf,h4,h3,aM,cI];rfl
 . cases A
section
variable{c:Call}{ty:TypeId}{r:iX}
theorem Kq(g:Good E h w)(hn:E.ι n=none)(hr:∀x∈c.operands,nv E F ρ x)(e:wG P F c h n=some r):
  ku P E h n w (do let d <- resolve ρ c ty;invoke d.target d.args) r:=by
 unfold wG at e;split at e
 . rename_i args ha;have mS:=u0 (E:=E) (ρ:=ρ) c.args.toList args (fun x K=>hr x (by simp[Call.operands];exact .inr (by simpa using K))) ha;have CK:c.args.map ρ=(c.args.toList.map ρ).toArray:=by apply Array.ext';simp
   split at e
   . rename_i b A;unfold lK at e;split at e
     . split at e
       . rename_i C;have:=Nu (P:=P) (ty:=ty) g hn mS e C;simpa[resolve,A,invoke,builtin,CK]using this
       . cases e
     . obtain⟨v,h1,rfl⟩:=gz e;have:=XV (P:=P) (n:=n) (ty:=ty) g mS h1;simpa[resolve,A,invoke,builtin,CK]using this
     . split at e
       . obtain⟨v,h1,rfl⟩:=gz e;have:=XW (P:=P) (n:=n) (eW:=c.argTypes) (ty:=ty) g mS h1;simpa[resolve,A,invoke,builtin,CK]using this
       . cases e
     . split at e
       . obtain⟨v,h1,rfl⟩:=gz e;have:=XX (P:=P) (n:=n) (eW:=c.argTypes) (ty:=ty) g mS h1;simpa[resolve,A,invoke,builtin,CK]using this
       . cases e
     . split at e
       . rename_i t v;obtain rfl:=eZ e;obtain⟨x',_,⟨y,ry,rfl⟩,mg,hl⟩:=mS;simp only[eK]at mg;subst mg;have h0:(c.args.map ρ).getD 0 .nilIface= .iface t y:=by rw[CK,hl];rfl
         refine⟨.iface t y,?_,y,ry,rfl⟩;simp only[resolve,A,pure_bind,invoke,builtin];rw[h0];rfl
       . cases e
     . obtain rfl:=eZ e;show _=_;simp[resolve,A,invoke,builtin]
     . split at e
       . split at e
         . rename_i ug;obtain rfl:=eZ e;have:=F0 (P:=P) (n:=n) (eW:=c.argTypes) (ty:=ty) g mS ug;simpa[resolve,A,invoke,builtin,CK]using this
         . cases e
       . obtain rfl:=eZ e;have:=Io (P:=P) (n:=n) (eW:=c.argTypes) (ty:=ty) g mS;simpa[resolve,A,invoke,builtin,CK]using this
       . cases e
     . split at e
       . rename_i pt m l Wt;split at e
         . rename_i e0 el AM s hp L;split at e
           . rename_i hq;obtain⟨⟨q1,q2⟩,⟨rfl,q3⟩,q4,q5,q6⟩:=hq;obtain rfl:=eZ e;have:=BD (P:=P) (n:=n) (eW:=c.argTypes) (ty:=ty) g mS Wt q5 hp L q1 q2 q3 q4 q6;simpa[resolve,A,invoke,builtin,CK]using this
           . cases e
         . cases e
       . rename_i pt l Wt;split at e
         . rename_i hq;obtain⟨q1,q5⟩:=hq;subst q1;obtain rfl:=eZ e;have:=xh (P:=P) (n:=n) (eW:=c.argTypes) (ty:=ty) g mS Wt q5;simpa[resolve,A,invoke,builtin,CK]using this
         . cases e
       . cases e
     . split at e
       . rename_i C;have:=NA (P:=P) (ty:=ty) g mS C e;simpa[resolve,A,invoke,builtin,CK]using this
       . cases e
     . cases e
   . cases e
   . rename_i f A;split at e
     . rename_i gf first captured hf
       split at e
       . rename_i CL;obtain rfl:=eZ e;obtain⟨f',fi,ca,Th,r1,r2,Ip⟩:=hr f (by simp[Call.operands,A]) _ hf;simp only[AO]at Th;subst Th;refine⟨fi++c.args.toList.map ρ++ca,jg (jg r1 mS) r2,.inl ⟨?_,CL⟩⟩;have lX:=tu (w:=w) (args:=(fi++c.args.toList.map ρ++ca).toArray) CL;simp only[resolve,A,Ip,Deferred.ofValue,pure_bind,invoke];rw[<- lX];congr 2;apply Array.ext';simp
       . cases e
     . rename_i m hf;obtain⟨f',fi,ca,⟨l,s,jP,Th⟩,r1,r2,Ip⟩:=hr f (by simp[Call.operands,A]) _ hf;subst Th;simp only[eK]at r1 r2;subst r1;subst r2;split at e
       . split at e
         . obtain rfl:=eZ e;refine⟨c.args.toList.map ρ,mS,.inr ⟨m,l,s,rfl,jP,?_⟩⟩;simp only[resolve,A,Ip,Deferred.ofValue,pure_bind,invoke,CK];simp
         . cases e
       . cases e
     . cases e
 . cases e
theorem Iq(hr:∀x∈c.operands,nv E F ρ x)(e:Cq F c=some r):
  ku P E h n w (do pure (.defer (<- resolve ρ c ty))) r:=by
 unfold Cq at e;split at e
 . rename_i args ha;have mS:=u0 (E:=E) (ρ:=ρ) c.args.toList args (fun x K=>hr x (by simp[Call.operands];exact .inr (by simpa using K))) ha;split at e
   . rename_i f A;split at e
     . rename_i gf first captured hf
       obtain rfl:=eZ e;obtain⟨f',fi,ca,Th,r1,r2,Ip⟩:=hr f (by simp[Call.operands,A]) _ hf;simp only[AO]at Th;subst Th;refine⟨ca,fi++c.args.toList.map ρ,?_,r2,jg r1 mS⟩;simp only[resolve,A,Ip,Deferred.ofValue,pure_bind];show Result.ok _ w=_;congr 3;apply Array.ext';simp
     . cases e
   . cases e
 . cases e
end
set_option maxHeartbeats 1000000 in
theorem n8{o:Oper}{r:iX}(g:Good E h w)(hn:E.ι n=none)(hr:∀x∈o.op.operands,nv E F ρ x)(e:eG P o F h n=some r):ku P E h n w (execOp ρ o) r:=by
 obtain⟨dst,op,ty,pos,after,guard⟩:=o;simp only at hr;cases op<;>simp only[eG]at e<;>simp only[Op.operands]at hr<;>simp only[execOp]
 case move x=>
  obtain⟨v,h1,rfl⟩:=gz e;exact eS g rfl (hr x (by simp) v h1)
 case assign x=>
  obtain⟨v,h1,rfl⟩:=gz e;exact eS g rfl (hr x (by simp) v h1)
 case pick c x y=>
  split at e
  . rename_i A;obtain⟨v,h1,rfl⟩:=gz e;have rc:=hr c (by simp) _ A;simp only[eH]at rc;exact eS g (by simp[rc,asBool]) (hr x (by simp) v h1)
  . rename_i A;obtain⟨v,h1,rfl⟩:=gz e;have rc:=hr c (by simp) _ A;simp only[eH]at rc;exact eS g (by simp[rc,asBool]) (hr y (by simp) v h1)
  . cases e
 case alloc t=>
  split at e
  . rename_i z hz;split at e
    . rename_i h' n' ho;obtain rfl:=eZ e;exact Pk g hn hz ho
    . cases e
  . cases e
 case box t x=>
  split at e
  . rename_i v hv;split at e
    . rename_i h' n' ho;obtain rfl:=eZ e;exact XK g hn (hr x (by simp) v hv) ho
    . cases e
  . cases e
 case build t parts=>
  split at e
  . rename_i ps wo;obtain⟨v,h1,rfl⟩:=gz e;have hp:=tr (E:=E) (ρ:=ρ) parts.toList ps (fun x K=>hr x (by simpa using K)) wo;have hq:AR E ps (parts.map fun(i,x)=>(i,ρ x)).toList:=by simpa using hp
    obtain⟨v',q1,q2⟩:=Np (P:=P) (w:=w) hq h1;refine eS g (v':=v') ?_ q2;simp only[Sem.run_bind,q1,Result.andThen_ok,Sem.run_pure]
  . cases e
 case buildSlice t len parts=>
  split at e
  . rename_i ps wo;have hp:=tr (E:=E) (ρ:=ρ) parts.toList ps (fun x K=>hr x (by simpa using K)) wo;have hq:AR E ps (parts.map fun(i,x)=>(i,ρ x)).toList:=by simpa using hp
    have:=Ee (P:=P) (w:=w) (t:=t) (len:=len) g hn hq e;exact this
  . cases e
 case load t x=>
  split at e
  . rename_i v hv;obtain⟨u,h1,rfl⟩:=gz e;exact TJ g (hr x (by simp) v hv) h1
  . cases e
 case store t x y=>
  split at e
  . rename_i a v ha hv;split at e
    . rename_i h' hs;obtain rfl:=eZ e;exact Pn g (hr x (by simp) a ha) (hr y (by simp) v hv) hs
    . cases e
  . cases e
 case nilCheck x=>
  split at e
  . rename_i p hv;obtain rfl:=eZ e;have K:=hr x (by simp) _ hv;obtain⟨b,s,q1,q2⟩:=K;rw[q2];exact eS g (v':=.pointer (some ⟨b,s+p.2,none⟩)) rfl ⟨b,s,q1,rfl⟩
  . rename_i cs hv;obtain rfl:=eZ e;have K:=hr x (by simp) _ hv;obtain⟨b,o,c,vs,q1,q2⟩:=K;rw[q1];exact eS g (v':=.pointer (some ⟨b,o,none⟩)) rfl ⟨b,o,c,vs,rfl,q2⟩
  . rename_i f a c hv;obtain rfl:=eZ e;have K:=hr x (by simp) _ hv;obtain⟨f',a',c',q0,q1,q2,q3⟩:=K;simp only[AO]at q0;subst q0;rw[q3];exact eS g (v':=.func (.func f) a'.toArray c'.toArray) rfl ⟨_,a',c',rfl,q1,q2,rfl⟩
  . rename_i t v hv;obtain rfl:=eZ e;have K:=hr x (by simp) _ hv;obtain⟨y,q1,q2⟩:=K;rw[q2];exact eS g (v':=.iface t y) rfl ⟨y,q1,rfl⟩
  . cases e
 case binOp op t x y yt=>
  split at e
  . rename_i a b ha U;obtain⟨u,h1,rfl⟩:=gz e;exact Pr g (hr x (by simp) a ha) (hr y (by simp) b U) h1
  . cases e
 case unOp op t x=>
  split at e
  . rename_i v hv;obtain⟨u,h1,rfl⟩:=gz e;exact TL g (hr x (by simp) v hv) h1
  . cases e
 case convert s d x=>
  split at e
  . rename_i v hv;exact Kl g hn (hr x (by simp) v hv) e
  . cases e
 case makeInterface t x=>
  split at e
  . rename_i v d hv hu;split at e
    . cases e
    . rename_i hd;obtain rfl:=eZ e;have K:=hr x (by simp) v hv;refine eS g (v':=.iface t (ρ x)) ?_ ⟨ρ x,K,rfl⟩;simp only[Instr.makeInterface,Sem.run_bind,eE hu,Result.andThen_ok];cases d<;>first|(exact absurd rfl (hd _))|rfl
  . cases e
 case makeFunc f first captured=>
  split at e
  . rename_i a c ha A;split at e
    case isFalse=>cases e
    rename_i hny;obtain rfl:=eZ e;have hfn:AO E f f:=by cases f<;>first|rfl|cases hny
    have r1:=u0 (E:=E) (ρ:=ρ) first.toList a (fun x K=>hr x (by simp at K ⊢;exact .inl K)) ha
    have r2:=u0 (E:=E) (ρ:=ρ) captured.toList c (fun x K=>hr x (by simp at K ⊢;exact .inr K)) A;refine eS g (v':=.func f (first.map ρ) (captured.map ρ)) rfl ⟨f,first.toList.map ρ,captured.toList.map ρ,hfn,r1,r2,?_⟩;congr 1<;>(apply Array.ext';simp)
  . cases e
 case makeMap t res=>
  cases res with
  |some _=>simp at e
  |none=>
   simp only at e;split at e
   . rename_i h' n' ho;obtain rfl:=eZ e;exact Kp g hn ho
   . cases e
 case makeSlice t l c=>
  split at e
  . rename_i lv cv hl A;exact FW g hn (hr l (by simp) lv hl) (hr c (by simp) cv A) e
  . cases e
 case slice t x lo hi mx=>
  split at e
  . rename_i v lov hiv mxv hv HB NB hmx;obtain⟨u,h1,rfl⟩:=gz e;refine Pu g (hr x (by simp) v hv) (xj (fun y hy=>hr y ?_) HB) (xj (fun y hy=>hr y ?_) NB) (xj (fun y hy=>hr y ?_) hmx) h1
    . subst hy;simp
    . subst hy;simp
    . subst hy;simp
  . cases e
 case fieldAddr t x f=>
  split at e
  . rename_i v hv;obtain⟨u,h1,rfl⟩:=gz e;exact FR g (hr x (by simp) v hv) h1
  . cases e
 case field t x f=>
  split at e
  . rename_i v hv;obtain⟨u,h1,rfl⟩:=gz e;exact Ps g (hr x (by simp) v hv) h1
  . cases e
 case indexAddr t x i=>
  split at e
  . rename_i v iv hv hi;obtain⟨u,h1,rfl⟩:=gz e;exact FT g (hr x (by simp) v hv) (hr i (by simp) iv hi) h1
  . cases e
 case index t x i=>
  split at e
  . rename_i v iv hv hi;obtain⟨u,h1,rfl⟩:=gz e;exact Pt g (hr x (by simp) v hv) (hr i (by simp) iv hi) h1
  . cases e
 case lookup t x k ok=>
  split at e
  . rename_i v kv hv hk;obtain⟨u,h1,rfl⟩:=gz e;exact Nz g (hr x (by simp) v hv) (hr k (by simp) kv hk) h1
  . cases e
 case mapUpdate t m k v=>
  split at e
  . rename_i mv kv vv L hk hv;exact yx g (hr m (by simp) mv L) (hr k (by simp) kv hk) (hr v (by simp) vv hv) e
  . cases e
 case insert t m k v=>
  split at e
  . rename_i mv kv vv L hk hv;exact yx g (hr m (by simp) mv L) (hr k (by simp) kv hk) (hr v (by simp) vv hv) e
  . cases e
 case mapEntry t m k=>
  split at e
  . rename_i mv kv L hk;exact Im g (hr m (by simp) mv L) (hr k (by simp) kv hk) e
  . cases e
 case entryStore t m s v=>
  split at e
  . rename_i mv sv vv L hs hv;exact Ej g (hr m (by simp) mv L) (hr s (by simp) sv hs) (hr v (by simp) vv hv) e
  . cases e
 case range t x=>
  split at e
  . rename_i v hv;exact PC g hn (hr x (by simp) v hv) e
  . cases e
 case next it b=>
  split at e
  . rename_i v hv;exact TS g (hr it (by simp) v hv) e
  . cases e
 case typeAssert x xt t ok=>
  split at e
  . rename_i v hv;obtain⟨u,h1,rfl⟩:=gz e;exact Eg g (hr x (by simp) v hv) h1
  . cases e
 case extract x i=>
  split at e
  . rename_i vs hv;obtain⟨u,h1,rfl⟩:=gz e;exact Kj g (hr x (by simp) _ hv) h1
  . cases e
 case panic x=>
  split at e
  . rename_i t v hv;obtain rfl:=eZ e;obtain⟨y,q1,q2⟩:=hr x (by simp) _ hv;refine⟨.iface t y,?_,y,q1,rfl⟩;rw[q2];simp[Instr.panic]
  . cases e
 case call c=>exact Kq g hn hr e
 case defer c=>exact Iq hr e
 all_goals (cases e)
end
def xk(E:Env)(F:I V)(a:Act):Prop:=∀t v,F.get t=some v->∃v',a.tmps[t]? =some v'/\eH E v v'
theorem oa{E E':Env}(h:E.le E'){F:I V}{a:Act}(r:xk E F a):xk E' F a:=fun t v e=>let⟨v',h1,C⟩:=r t v e;⟨v',h1,jU h v v' C⟩
section
variable(a:Act){E:Env}(dst:Option Tmp){F:I V}
theorem mq(v:Value):(a.put dst v).tmps.size=a.tmps.size:=by cases dst<;>simp[Act.put]
theorem kj(v:Value):(a.put dst v).defers=a.defers:=by cases dst<;>rfl
def nw(n0:Nat)(dst:Option Tmp):Prop:=∀d,dst=some d->d<n0
theorem oI{fr':I V}{a:Act}{dst:Option Tmp}{v:V}{v':Value}(r:xk E F a)(e:jR F dst v=some fr')(hv:eH E v v')(hd:nw a.tmps.size dst):xk E fr' (a.put dst v'):=by
 cases dst with
 |none=>simp only[jR,aq]at e;subst e;exact r
 |some d=>
  simp only[jR]at e;split at e
  . rename_i ht;obtain rfl:=eZ e;intro t x K;rw[I.gC _ _ _ ht]at K;have fj:=hd d rfl;by_cases q:t=d
    . subst q;rw[aF rfl]at K;cases K;exact⟨v',by simp[Act.put,fj],hv⟩
    . rw[aD q]at K;obtain⟨y,h1,C⟩:=r t x K;exact⟨y,by simp[Act.put,Ne.symm q,h1],C⟩
  . cases e
theorem ny{a:Act}(ge:GE E)(r:xk E F a)(x:Operand):nv E F a.eval x:=by
 intro v e;cases x with
 |tmp t=>obtain⟨v',h1,C⟩:=r t v e;simp only[Act.eval,bO,h1];exact C
 |const c=>exact zN e
 |func f=>simp only[jn,aq]at e;subst e;exact⟨_,[],[],rfl,rfl,rfl,rfl⟩
 |global g=>exact HR ge e
end
theorem xl{E:Env}{ops:Array Oper}{o:Oper}{F:I V}{a:Act}{b:Bool}(r:∀j FG q d,o.guard=some (j,FG)->ops[j]? =some q->q.dst=some d->∀v,F.get d=some v->∃v',a.tmps[d]? =some v'/\eH E v v')(e:gq ops o F=some b):
  Region.wanted o (yielded ops a.tmps)=b:=by
 unfold gq at e;unfold Region.wanted;cases hg:o.guard with
 |none=>simp only[hg,aq]at e ⊢;exact e
 |some p=>
  obtain⟨j,FG⟩:=p;simp only[hg]at e ⊢;cases hj:ops[j]? with
  |none=>simp[hj]at e
  |some q=>
   simp only[hj]at e;cases hd:q.dst with
   |none=>simp[hd]at e
   |some d=>
    simp only[hd]at e;cases hf:F.get d with
    |none=>simp[hf]at e
    |some v=>
     obtain⟨v',h1,C⟩:=r j FG q d hg hj hd v hf;have hy:yielded ops a.tmps j=(match(some v':Option Value)with|some (.bool b)=>some b|_=>none):=by
      unfold yielded;rw[hj];simp only[Option.bind_some,hd,h1];cases v'<;>rfl
     cases v with
     |bool b0=>
      simp only[hf,aq]at e;simp only[eH]at C;subst C;rw[hy,<- e];cases b0<;>cases FG<;>rfl
     |gK vs=>
      cases vs with
      |nil=>
       simp only[hf,aq]at e;obtain⟨l,hl,rfl⟩:=C;rw[hy,<- e];rfl
      |cons _ _=>simp[hf]at e
     |_=>simp[hf]at e
def qK(E:Env)(n:Nat):Prop:=∀m,n<=m->E.ι m=none
def xm(E:Env):qb->Ending->Prop
 | .ret v,.returned v'=>eH E v v'
 | .nI v,.panicked chain=>∃v',eH E v v'/\chain=[{ v:=v',recovered:=false }]
 |_,_=>False
def fz(iX:Option Nat):Fence:={ Fence.wide with round:=iX }
def jx(E:Env)(h:I es)(n:Nat)(w:World)(sV:qb)(h':I es)(n':Nat)(e:Ending)(w':World):Prop:=
 ∃E',jt E h w E' h' w'/\(∀m,m<n->E'.ι m=E.ι m)/\qK E' n'/\n<=n'/\xm E' sV e
def iu(P:Program)(cf:gu):Prop:=∀f args h n sV h' n',cf f args h n=some (sV,h',n')->∀E w dZ,eK E args dZ->Good E h w->qK E n->
 (callee P f=true->Calls P f dZ.toArray w (jx E h n w sV h' n'))/\
 (∀m l s,f=P.funcs.size+m->E.ι m=some (l,s)->YieldAt Fence.wide 0 P l dZ.toArray w (jx E h n w sV h' n'))
theorem u6{iX:Option Nat}{ρ:Operand->Value}{o:Oper}(h:∀c,o.op≠ .defer c):Oper.semAt iX ρ o=execOp ρ o:=by
 cases iX with
 |none=>exact Oper.semAt_none ..
 |some l=>exact Oper.semAt_some l ρ o h
theorem Kr{F:I V}{c:Call}{r:iX}(e:Cq F c=some r):∃f a b,r= .uy f a b:=by
 unfold Cq at e;split at e
 . split at e
   . split at e
     . simp only[aq]at e;exact⟨_,_,_,e.symm⟩
     . cases e
   . cases e
 . cases e
section
variable{P:Program}{E:Env}{h h':I es}{n n':Nat}{w:World}{F:I V}{a:Act}{o:Oper}{hx:Act->World->Prop}{Q:Exit->Act->World->Prop}{rN:Option Nat}
theorem zU{r:iX}(e:eG P o F h n=some r)(hr:∀f a b,r≠ .uy f a b):∀c,o.op≠ .defer c:=by
 intro c A;simp only[eG,A]at e;obtain⟨f,x,y,q⟩:=Kr e;exact hr f x y q
theorem F1{v:V}(g:Good E h w)(hn:E.ι n=none)(hr:∀x∈o.op.operands,nv E F a.eval x)(e:eG P o F h n=some (.val v h' n'))
  (hk:∀E' w' v',eH E' v v'->jt E h w E' h' w'->(∀m,m≠n->E'.ι m=E.ι m)->((n'=n/\E'=E)\/n'=n+1)->hx (a.put o.dst v') w'):o.wpIn (fz rN) 0 P a w hx Q:=by
 obtain⟨E',w',v',gF,h1,C,h3,h4⟩:=n8 g hn hr e;refine⟨fun _ _=>trivial,?_⟩;rw[u6 (zU e fun _ _ _=>by simp)];rcases gF with gF|⟨gF,rfl⟩
 . rw[gF,Oper.uponIn_value];exact hk E' w' v' h1 C h3 h4
 . rw[gF,Oper.uponIn_skip];exact hk E' w' undef h1 C h3 h4
theorem BU{cf:gu}{f:FuncId}{args:ag}{sV:qb}(lX:iu P cf)(g:Good E h w)(hn:qK E n)(hr:∀x∈o.op.operands,nv E F a.eval x)
  (e:eG P o F h n=some (.call f args)) (ec:cf f args h n=some (sV,h',n'))
  (hk:∀E' w',jt E h w E' h' w'->(∀m,m<n->E'.ι m=E.ι m)->qK E' n'->n<=n'->
   match sV with
   | .ret v=>∀v',eH E' v v'->hx (a.put o.dst v') w'
   | .nI v=>∀v',eH E' v v'->Q (.panic [{ v:=v',recovered:=false }]) a w'):o.wpIn (fz rN) 0 P a w hx Q:=by
 obtain⟨dZ,h1,gF⟩:=n8 g (hn n (aK _)) hr e;refine⟨fun _ _=>trivial,?_⟩;rw[u6 (zU e fun _ _ _=>by simp)];have oc:∀en w',jx E h n w sV h' n' en w'->(match en,w' with
  | .returned v,w''=>hx (a.put o.dst v) w''
  | .panicked chain,w''=>Q (.panic chain) a w''
  | .outgrown,_=>LetsOut Q):=fun en w' ⟨E',u1,u2,u3,u4,u5⟩=>by
  have:=hk E' w' u1 u2 u3 u4;cases sV with
  |ret v=>cases en with
   |returned v'=>exact this v' u5
   |panicked _=>exact u5.elim
   |outgrown=>exact u5.elim
  |nI v=>cases en with
   |returned v'=>exact u5.elim
   |panicked chain=>obtain⟨v',q1,rfl⟩:=u5;exact this v' q1
   |outgrown=>exact u5.elim
 rcases gF with⟨gF,C⟩|⟨m,l,s,C,h3,gF⟩
 . rw[gF,Oper.uponIn_enter];have A:CallsIn Fence.wide (0-1) P f dZ.toArray w _:=callsIn_wide.2 (((lX f args h n sV h' n' ec E w dZ h1 g hn).1 C).mono oc);exact⟨fun hd=>by simp[fz,Fence.wide]at hd,A⟩
 . obtain⟨fn,tmps,assign,body,q1,q2⟩:=(lX f args h n sV h' n' ec E w dZ h1 g hn).2 m l s C h3;rw[gF,q1,Oper.uponIn_round];have A:RoundIn Fence.wide (0-1) P l fn tmps assign body w _:=q2.mono oc;exact⟨fun hd=>by simp[fz,Fence.wide]at hd,A⟩
theorem PD{v:V}(g:Good E h w)(hn:E.ι n=none)(hr:∀x∈o.op.operands,nv E F a.eval x)(e:eG P o F h n=some (.panic v))
  (hk:∀v',eH E v v'->Q (.panic [{ v:=v',recovered:=false }]) a w):o.wpIn (fz rN) 0 P a w hx Q:=by
 obtain⟨v',gF,h1⟩:=n8 g hn hr e;refine⟨fun _ _=>trivial,?_⟩;rw[u6 (zU e fun _ _ _=>by simp)];rw[gF,Oper.uponIn_panic];exact hk v' h1
theorem XY{f:FuncId}{c args:ag}(hrn:rN=none)(g:Good E h w)(hn:E.ι n=none)(hr:∀x∈o.op.operands,nv E F a.eval x)(e:eG P o F h n=some (.uy f c args))
  (hk:∀c' dZ,eK E c c'->eK E args dZ->hx ({ a with defers:={ target:=.fn (.func f) c'.toArray,args:=dZ.toArray }::a.defers }.put o.dst undef) w):o.wpIn (fz rN) 0 P a w hx Q:=by
 subst hrn;obtain⟨c',dZ,gF,h1,C⟩:=n8 g hn hr e;refine⟨fun _ _=>trivial,?_⟩;show o.uponIn (fz none) 0 P a hx Q ((Oper.semAt none a.eval o).run P w);rw[Oper.semAt_none,gF,Oper.uponIn_defer];exact hk c' dZ h1 C
end
def Sub(x y:I es):Prop:=∀k b,x.get k=some b->y.get k=some b
section
variable{P:Program}{F:I V}{x:I es}{n:Nat}
theorem Ir{o:Oper}{r:iX}(hp:oZ o.op=true)(e:eG P o F x n=some r):∃v,r= .val v x n/\∀(y:I es) (k:Nat),eG P o F y k=some (.val v y k):=by
 obtain⟨dst,op,ty,pos,after,guard⟩:=o;simp only at hp;cases op<;>simp only[oZ]at hp<;>first|(cases hp;done)|skip
 all_goals simp only[eG]at e
 case move a=>obtain⟨v,h1,rfl⟩:=gz e;exact⟨v,rfl,fun y k=>by simp only[eG,h1,kK]⟩
 case assign a=>obtain⟨v,h1,rfl⟩:=gz e;exact⟨v,rfl,fun y k=>by simp only[eG,h1,kK]⟩
 case pick c a b=>
  split at e
  . rename_i A;obtain⟨v,h1,rfl⟩:=gz e;exact⟨v,rfl,fun y k=>by simp only[eG,A,h1,kK]⟩
  . rename_i A;obtain⟨v,h1,rfl⟩:=gz e;exact⟨v,rfl,fun y k=>by simp only[eG,A,h1,kK]⟩
  . cases e
 case build t parts=>
  split at e
  . rename_i ps A;obtain⟨v,h1,rfl⟩:=gz e;exact⟨v,rfl,fun y k=>by simp only[eG,A,h1,kK]⟩
  . cases e
 case nilCheck a=>
  split at e
  . rename_i p A;obtain rfl:=eZ e;exact⟨_,rfl,fun y k=>by simp only[eG,A]⟩
  . rename_i A;obtain rfl:=eZ e;exact⟨_,rfl,fun y k=>by simp only[eG,A]⟩
  . rename_i A;obtain rfl:=eZ e;exact⟨_,rfl,fun y k=>by simp only[eG,A]⟩
  . rename_i t v A;obtain rfl:=eZ e;exact⟨_,rfl,fun y k=>by simp only[eG,A]⟩
  . cases e
 case binOp op t a b yt=>
  split at e
  . rename_i u w h1 C;obtain⟨v,h3,rfl⟩:=gz e;exact⟨v,rfl,fun y k=>by simp only[eG,h1,C,h3,kK]⟩
  . cases e
 case unOp op t a=>
  split at e
  . rename_i u h1;obtain⟨v,h3,rfl⟩:=gz e;exact⟨v,rfl,fun y k=>by simp only[eG,h1,h3,kK]⟩
  . cases e
 case makeInterface t a=>
  split at e
  . rename_i v d h1 C;split at e
    . cases e
    . rename_i hd;obtain rfl:=eZ e;refine⟨_,rfl,fun y k=>?_⟩;simp only[eG,h1,C]
  . cases e
 case makeFunc f a c=>
  split at e
  . rename_i u w h1 C;split at e
    case isFalse=>cases e
    rename_i hny;obtain rfl:=eZ e;exact⟨_,rfl,fun y k=>by simp only[eG,h1,C,hny,if_true]⟩
  . cases e
 case fieldAddr t a f=>
  split at e
  . rename_i u h1;obtain⟨v,h3,rfl⟩:=gz e;exact⟨v,rfl,fun y k=>by simp only[eG,h1,h3,kK]⟩
  . cases e
 case field t a f=>
  split at e
  . rename_i u h1;obtain⟨v,h3,rfl⟩:=gz e;exact⟨v,rfl,fun y k=>by simp only[eG,h1,h3,kK]⟩
  . cases e
 case indexAddr t a i=>
  split at e
  . rename_i u w h1 C;obtain⟨v,h3,rfl⟩:=gz e;exact⟨v,rfl,fun y k=>by simp only[eG,h1,C,h3,kK]⟩
  . cases e
 case index t a i=>
  split at e
  . rename_i u w h1 C;obtain⟨v,h3,rfl⟩:=gz e;exact⟨v,rfl,fun y k=>by simp only[eG,h1,C,h3,kK]⟩
  . cases e
 case typeAssert a s t ok=>
  split at e
  . rename_i u h1;obtain⟨v,h3,rfl⟩:=gz e;exact⟨v,rfl,fun y k=>by simp only[eG,h1,h3,kK]⟩
  . cases e
 case extract a i=>
  split at e
  . rename_i vs h1;obtain⟨v,h3,rfl⟩:=gz e;exact⟨v,rfl,fun y k=>by simp only[eG,h1,h3,kK]⟩
  . cases e
section
variable{t:TypeId}{o:Oper}{a:V}{r:iX}
theorem Is{v:V}{y:I es}(hs:Sub x y)(e:loadAt P t x a=some v):loadAt P t y a=some v:=by
 unfold loadAt at e ⊢;split at e
 . rename_i m o;split at e
   . rename_i cs L;simp only[hs m _ L];exact e
   . rename_i k W L;simp only[hs m _ L];exact e
   . rename_i k W L;simp only[hs m _ L];exact e
   . rename_i cs L;simp only[hs m _ L];exact e
   . rename_i s' self x0 L;simp only[hs m _ L];exact e
   . cases e
 . exact e
 . cases e
theorem F2{m k:Nat}{y:I es}(hs:Sub x y)(e:xZ x m k=true):xZ y m k=true:=by
 unfold xZ at e ⊢;split at e
 . rename_i cs L;simp only[hs m _ L];exact e
 . cases e
theorem It{v:V}{lo hi mx:Option V}{y:I es}(hs:Sub x y)(e:mK P t x a lo hi mx=some v):mK P t y a lo hi mx=some v:=by
 unfold mK at e ⊢;split at e
 . cases e
 . rename_i h0;rw[aD h0];split at e
   . exact e
   . exact e
   . exact e
   . rename_i nn el b o hu;cases h1:kE P el with
     |none=>simp[h1]at e
     |some s=>cases C:fB nn nn mx with
      |none=>simp[h1,C]at e
      |some m=>cases h3:fB nn m hi with
       |none=>simp[h1,C,h3]at e
       |some hh=>cases h4:fB 0 hh lo with
        |none=>simp[h1,C,h3,h4]at e
        |some l=>
         simp only[h1,C,h3,h4]at e ⊢;split at e
         . rename_i hq;rw[aF ⟨hq.1,hq.2.1,F2 hs hq.2.2⟩];exact e
         . cases e
   . cases e
theorem F3{k v:V}{ok:Bool}{y:I es}(hs:Sub x y)(e:vH P t x a k ok=some v):vH P t y a k ok=some v:=by
 unfold vH at e ⊢;split at e
 . split at e
   . cases a with
     |map m=>
      cases m with
      |none=>exact e
      |some m=>
       simp only[V.Wi]at e ⊢;cases L:x.get m with
       |none=>simp[L]at e
       |some o=>
        have hy:=hs m o L;rw[hy];rw[L]at e;cases o with
        |gL kk O=>exact e
        |_=>simp only[hy];simp only[L]at e;exact e
     |_=>exact e
   . cases e
 . cases e
theorem ND{ts:Array TypeId}{as:ag}{v:V}{y:I es}(hs:Sub x y)(e:Nk P ts as x=some v):Nk P ts as y=some v:=by
 unfold Nk at e ⊢;split at e
 . split at e
   . exact e
   . exact e
   . exact e
   . exact e
   . exact e
   . rename_i m hu;cases L:x.get m with
     |none=>simp[L]at e
     |some o=>
      simp only[hs m o L];simp only[L]at e;exact e
   . cases e
 . cases e
theorem Ks{o:es}{p:I es×Nat}(e:newObj x n o=some p)(y:I es):n<gO/\p=(x.set n (some o),n+1)/\newObj y n o=some (y.set n (some o),n+1):=by
 obtain⟨h',n'⟩:=p;obtain⟨h1,rfl,rfl⟩:=k9 e;exact⟨h1,rfl,by simp[newObj,h1]⟩
def u7(P:Program)(o:Oper)(F:I V)(x:I es)(n:Nat)(r:iX):Prop:=
 (∃v,r= .val v x n/\∀y,Sub x y->eG P o F y n=some (.val v y n)) \/
 (∃v b,n<gO/\r= .val v (x.set n (some b)) (n+1)/\∀y,eG P o F y n=some (.val v (y.set n (some b)) (n+1)))
theorem u7.alloc{ob:es}{v:V}{h':I es}{n':Nat}(e:newObj x n ob=some (h',n'))(k:∀(y C:I es) (m:Nat),newObj y n ob=some (C,m)->eG P o F y n=some (.val v C m)):u7 P o F x n (.val v h' n'):=by
 obtain⟨h1,rfl,rfl⟩:=k9 e;exact .inr ⟨v,ob,h1,rfl,fun y=>k y _ _ (Ks e y).2.2⟩
theorem Ek(hp:oZ o.op=true)(e:eG P o F x n=some r):u7 P o F x n r:=by
 obtain⟨v,h1,C⟩:=Ir hp e;exact .inl ⟨v,h1,fun y _=>C y n⟩
theorem quiet(hq:qd o.op=false)(e:eG P o F x n=some r):u7 P o F x n r:=by
 by_cases hp:oZ o.op=true
 . exact Ek hp e
 have e0:=e;obtain⟨dst,op,ty,pos,after,guard⟩:=o;simp only at hq hp;cases op<;>simp only[qd]at hq<;>first|(cases hq;done)|skip
 all_goals first|(exact absurd rfl hp)|skip
 all_goals simp only[eG]at e
 case alloc t=>
  split at e
  . rename_i z hz;split at e
    . rename_i h' n' ho;obtain rfl:=eZ e;exact u7.alloc ho fun y C m q=>by simp only[eG,hz,q]
    . cases e
  . cases e
 case box t a=>
  split at e
  . rename_i v hv;split at e
    . rename_i h' n' ho;obtain rfl:=eZ e;exact u7.alloc ho fun y C m q=>by simp only[eG,hv,q]
    . cases e
  . cases e
 case buildSlice t len parts=>
  split at e
  . rename_i ps wo;unfold oB at e;split at e
    . rename_i el he;split at e
      . rename_i s z hs hz;split at e
        . rename_i A;split at e
          . rename_i cs hf;split at e
            . rename_i h' n' ho;obtain rfl:=eZ e;exact u7.alloc ho fun y C m q=>by
               simp only[eG,wo,oB,he,hs,hz];rw[aF A];simp only[hf,q]
            . cases e
          . cases e
        . cases e
      . cases e
    . cases e
  . cases e
 case load t a=>
  split at e
  . rename_i v hv;obtain⟨u,h1,rfl⟩:=gz e;exact .inl ⟨u,rfl,fun y hs=>by simp only[eG,hv,Is hs h1,kK]⟩
  . cases e
 case convert s d a=>
  split at e
  . rename_i v hv;unfold o9 at e;split at e
    . rename_i h1 C;obtain rfl:=eZ e;exact .inl ⟨_,rfl,fun y hs=>by simp only[eG,hv,o9,h1,C]⟩
    . rename_i h1 C;obtain rfl:=eZ e;exact .inl ⟨_,rfl,fun y hs=>by simp only[eG,hv,o9,h1,C]⟩
    . rename_i h1 C;obtain rfl:=eZ e;exact .inl ⟨_,rfl,fun y hs=>by simp only[eG,hv,o9,h1,C]⟩
    . rename_i h1 C;split at e
      . rename_i h3;split at e
        . rename_i h' n' ho;obtain rfl:=eZ e;exact u7.alloc ho fun y AU m q=>by simp only[eG,hv,o9,h1,C,h3,q]
        . cases e
      . cases e
    . rename_i h1 C;split at e
      . rename_i h3;obtain rfl:=eZ e;exact .inl ⟨_,rfl,fun y hs=>by simp only[eG,hv,o9,h1,C,h3]⟩
      . cases e
    . rename_i h1 C;split at e
      . rename_i h3;obtain rfl:=eZ e;exact .inl ⟨_,rfl,fun y hs=>by simp only[eG,hv,o9,h1,C,h3]⟩
      . cases e
    . rename_i h1 C;split at e
      . rename_i h3;split at e
        . rename_i h4;have key:∀y:I es,Sub x y->∀m,AN (x.get m)=AN (y.get m)\/x.get m=none:=fun y hs m=>by
           cases L:x.get m with
           |none=>exact .inr rfl
           |some o=>rw[hs m o L];exact .inl rfl
          have ac6:∀y:I es,Sub x y->∀m,uN (x.get m)=uN (y.get m)\/x.get m=none:=fun y hs m=>by
           cases L:x.get m with
           |none=>exact .inr rfl
           |some o=>rw[hs m o L];exact .inl rfl
          rename_i m0 o0 axo _ _ _;split at e
          . rename_i s0 Ki;split at e
            . rename_i hl;obtain rfl:=eZ e;refine .inl ⟨_,rfl,fun y hs=>?_⟩;simp only[eG,hv,o9,h1,C,h3];rw[aF h4];rcases ac6 y hs m0 with q|q
              . rw[<- q,Ki];simp only[aF hl]
              . rw[q]at Ki;cases Ki
            . cases e
          . rename_i ajP;split at e
            . rename_i W CM;split at e
              . rename_i hl;obtain rfl:=eZ e;refine .inl ⟨_,rfl,fun y hs=>?_⟩;simp only[eG,hv,o9,h1,C,h3];rw[aF h4];rcases ac6 y hs m0 with q|q
                . rw[<- q,ajP];rcases key y hs m0 with q|q
                  . rw[<- q,CM];simp only[aF hl]
                  . rw[q]at CM;cases CM
                . rw[q]at CM;cases CM
              . cases e
            . rename_i CM;split at e
              . obtain rfl:=eZ e;refine .inl ⟨_,rfl,fun y hs=>?_⟩;simp only[eG,hv,o9,h1,C,h3];rw[aF h4];cases uN (y.get m0)with
                |some s0=>simp
                |none=>
                 cases AN (y.get m0)with
                 |none=>rfl
                 |some W=>simp[nQ]
              . split at e
                . rename_i cs L;split at e
                  . rename_i bs A;split at e
                    . rename_i T ht;obtain rfl:=eZ e;refine .inl ⟨_,rfl,fun y hs=>?_⟩;simp only[eG,hv,o9,h1,C,h3];rw[aF h4];simp only[hs _ _ L,uN,AN,A,ht]
                    . cases e
                  . cases e
                . cases e
        . cases e
      . cases e
    . cases e
  . cases e
 case makeMap t res=>
  cases res with
  |some _=>simp at e
  |none=>
   simp only at e;split at e
   . rename_i h' n' ho;obtain rfl:=eZ e;exact u7.alloc ho fun y C m q=>by simp only[eG,q]
   . cases e
 case makeSlice t l c=>
  split at e
  . rename_i lv cv h1 C;unfold nR at e;split at e
    . rename_i el k l0 k' c0 he;split at e
      . rename_i i z h3 h4;simp only at e;split at e
        . rename_i A;split at e
          . rename_i h' n' ho;obtain rfl:=eZ e;exact u7.alloc ho fun y AU m q=>by
             simp only[eG,h1,C,nR,he,h3,h4];rw[aF A];simp only[q]
          . cases e
        . cases e
      . cases e
    . cases e
  . cases e
 case slice t a lo hi mx=>
  split at e
  . rename_i v lov hiv mxv h1 C h3 h4;obtain⟨u,h5,rfl⟩:=gz e;exact .inl ⟨u,rfl,fun y hs=>by simp only[eG,h1,C,h3,h4,It hs h5,kK]⟩
  . cases e
 case lookup t a k ok=>
  split at e
  . rename_i v kv h1 C;obtain⟨u,h5,rfl⟩:=gz e;exact .inl ⟨u,rfl,fun y hs=>by simp only[eG,h1,C,F3 hs h5,kK]⟩
  . cases e
 case range t a=>
  split at e
  . rename_i v hv;unfold Cp at e;split at e
    . rename_i s hu;split at e
      . rename_i h' n' ho;obtain rfl:=eZ e;exact u7.alloc ho fun y AU m q=>by simp only[eG,hv,Cp,hu,q]
      . cases e
    . cases e
  . cases e
 case call c=>
  obtain⟨cal,args,ats⟩:=c;cases cal with
  |value f=>simp at hq
  |invoke f m=>simp at hq
  |builtin b=>
   simp only[wG]at e;split at e
   . rename_i as ha;cases b<;>simp only[]at hq<;>first|(cases hq;done)|skip
     . simp only[lK]at e;obtain⟨u,h5,rfl⟩:=gz e;exact .inl ⟨u,rfl,fun y hs=>by simp only[eG,wG,ha,lK,ND hs h5,kK]⟩
     . simp only[lK]at e;split at e
       . obtain⟨u,h5,rfl⟩:=gz e;exact .inl ⟨u,rfl,fun y hs=>by simp only[eG,wG,ha,lK,h5,kK]⟩
       . cases e
     . simp only[lK]at e;split at e
       . obtain⟨u,h5,rfl⟩:=gz e;exact .inl ⟨u,rfl,fun y hs=>by simp only[eG,wG,ha,lK,h5,kK]⟩
       . cases e
   . cases e
 all_goals (cases e)
end
end
theorem CN(l:List Oper)(o:Oper):pb (l++[o])=pb l++[fH (pb l) o.after.toList]:=by simp[pb]
theorem wK:∀(l:List Oper) (EG:List Nat),(l.foldl (fun EG o=>EG++[fH EG o.after.toList]) EG).length=EG.length+l.length
 | [],EG=>by simp
 |o::l,EG=>by simp only[List.foldl_cons];rw[wK l];simp;omega
theorem F4(l:List Oper):(pb l).length=l.length:=by unfold pb;rw[wK];simp
def ig(ops:Array Oper)(j:Nat):Nat:=match ops[j]? with
 |some o=>fH (pb (ops.toList.take j)) o.after.toList
 |none=>0
theorem EO{α:Type}{l:List α}{i:Nat}{o:α}(h:l[i]? =some o):l.take (i+1)=l.take i++[o]:=by
 rw[cz,h];rfl
theorem nA(ops:Array Oper):∀i,i<=ops.size->∀k,k<i->(pb (ops.toList.take i)).getD k 0=ig ops k
 |0,_,k,hk=>by omega
 |i+1,hi,k,hk=>by
  have ho:ops.toList[i]? =some ops[i]:=by rw[bU];exact bg S
  rw[EO ho,CN];have hl:(pb (ops.toList.take i)).length=i:=by rw[F4];simp;omega
  by_cases q:k<i
  . rw[ax,bH S,<- ax];exact nA ops i S k q
  . have:k=i:=by omega
    subst this;rw[ax,dc S,hl];simp only[Nat.sub_self,cT,cA];unfold ig;rw[<- bU,ho]
theorem zV(a b i:Nat):eT (a|||b) i=(eT a i||eT b i):=Nat.testBit_or a b i
theorem CO(k i:Nat):eT (2^k) i=decide (k=i):=Nat.testBit_two_pow
theorem jF(i:Nat):eT 0 i=false:=Nat.zero_testBit i
theorem xn(eX:List Nat)(k:Nat):∀O:List Edge,eT (fH eX O) k=true↔∃e∈O,Region.binds .any e=true/\(e.on=k\/eT (eX.getD e.on 0) k=true)
 | []=>by simp[fH,jF]
 |e::O=>by
  simp only[fH];by_cases U:Region.binds .any e=true
  . rw[aF U,zV,zV,CO,cq,cq,xn eX k O];simp only[aU,aA];constructor
    . rintro(⟨x,h1,C,h3⟩|h|h)
      . exact⟨x,.inr h1,C,h3⟩
      . exact⟨e,.inl rfl,U,.inl h⟩
      . exact⟨e,.inl rfl,U,.inr h⟩
    . rintro⟨x,rfl|h1,C,h3⟩
      . exact .inr h3
      . exact .inl ⟨x,h1,C,h3⟩
  . rw[aD U,xn eX k O];simp only[aA];constructor
    . rintro⟨x,h1,C,h3⟩;exact⟨x,.inr h1,C,h3⟩
    . rintro⟨x,rfl|h1,C,h3⟩
      . exact absurd C U
      . exact⟨x,h1,C,h3⟩
def vP(ops:Array Oper):Prop:=∀(j:Nat) (o:Oper),ops[j]? =some o->∀e∈o.after,Region.binds .any e=true->e.on<j
section
variable{ops:Array Oper}
theorem yy(he:vP ops){j k:Nat}{o:Oper}(ho:ops[j]? =some o):
  eT (ig ops j) k=true↔∃e∈o.after,Region.binds .any e=true/\(e.on=k\/eT (ig ops e.on) k=true):=by
 have hj:j<ops.size:=(aY.1 ho).1;unfold ig;simp only[ho];rw[xn];constructor
 . rintro⟨e,h1,C,h3⟩;have oU:e∈o.after:=by simpa using h1
   have fj:=he j o ho e oU C;refine⟨e,oU,C,h3.imp id fun q=>?_⟩;rw[nA ops j S e.on fj]at q;exact q
 . rintro⟨e,h1,C,h3⟩;have fj:=he j o ho e h1 C;refine⟨e,by simpa using h1,C,h3.imp id fun q=>?_⟩;rw[nA ops j S e.on fj];exact q
theorem Kt(he:vP ops):∀j k,eT (ig ops j) k=true->k<j:=by
 intro j
 induction j using Nat.strongRecOn with
 |_ j ih=>
  intro k h;cases ho:ops[j]? with
  |none=>simp[ig,ho,jF]at h
  |some o=>
   obtain⟨e,h1,C,h3⟩:=(yy he ho).1 h;have fj:=he j o ho e h1 C;rcases h3 with rfl|h3
   . exact fj
   . exact Nat.lt_trans (ih e.on fj k h3) fj
theorem EP(he:vP ops):∀j i k,eT (ig ops j) i=true->eT (ig ops i) k=true->eT (ig ops j) k=true:=by
 intro j
 induction j using Nat.strongRecOn with
 |_ j ih=>
  intro i k h h';cases ho:ops[j]? with
  |none=>simp[ig,ho,jF]at h
  |some o=>
   obtain⟨e,h1,C,h3⟩:=(yy he ho).1 h;have fj:=he j o ho e h1 C;refine(yy he ho).2 ⟨e,h1,C,.inr ?_⟩;rcases h3 with rfl|h3
   . exact h'
   . exact ih e.on fj i k h3 h'
theorem CP(he:vP ops){dF:Nat->Prop}(hS:∀j o,dF j->ops[j]? =some o->∀e∈o.after,Region.binds .any e=true->dF e.on):
  ∀j k,dF j->eT (ig ops j) k=true->dF k:=by
 intro j
 induction j using Nat.strongRecOn with
 |_ j ih=>
  intro k hj h;cases ho:ops[j]? with
  |none=>simp[ig,ho,jF]at h
  |some o=>
   obtain⟨e,h1,C,h3⟩:=(yy he ho).1 h;have hs:=hS j o hj ho e h1 C;rcases h3 with rfl|h3
   . exact hs
   . exact ih e.on (he j o ho e h1 C) k hs h3
end
structure lP(ops:Array Oper)(n0:Nat):Prop where
 wL:vP ops
 dst:∀(j:Nat) (o:Oper),ops[j]? =some o->nw n0 o.dst
 one:∀(i j:Nat) (o q:Oper) (t:Nat),ops[i]? =some o->ops[j]? =some q->o.dst=some t->q.dst=some t->i=j
 use:∀(i j:Nat) (o q:Oper) (t:Nat),ops[i]? =some o->ops[j]? =some q->i≠j->o.dst=some t->t∈uT ops q->if i<j then eT (ig ops j) i=true else eT (ig ops i) j=true
theorem CQ{ops:Array Oper}{n0:Nat}(h:Pd ops n0=true):lP ops n0:=by
 unfold Pd at h;rw[bw]at h;have at_:∀j o,ops[j]? =some o->(o.after.toList.all (fun e=>!Region.binds .any e||decide (e.on<j))=true/\(match o.dst with|some d=>decide (d<n0)|none=>true)=true/\
   ∀i,i<ops.size->i≠j->FJ ops (pb ops.toList) i j=true):=by
  intro j o ho;have hj:j<ops.size:=(aY.1 ho).1;have:=h j (bQ.2 hj);simp only[ho,ay,bw,bQ]at this;obtain⟨⟨h1,C⟩,h3⟩:=this;refine⟨by rw[bw];exact h1,C,fun i hi jD=>?_⟩;have:=h3 i hi;simp only[cq]at this;rcases this with q|q
  . exact absurd (aJ q) jD
  . exact q
 have L:∀j,j<ops.size->(pb ops.toList).getD j 0=ig ops j:=fun j hj=>by
  have:=nA ops ops.size (aK _) j hj;rwa [show ops.toList.take ops.size=ops.toList from by rw[cr];simp]at this
 refine⟨?_,?_,?_,?_⟩
 . intro j o ho e he U;obtain⟨h1,_,_⟩:=at_ j o ho;rw[bw]at h1;have:=h1 e (by simpa using he);simp only[U,Bool.not_true,bX,aU]at this;exact this
 . intro j o ho d hd;obtain⟨_,C,_⟩:=at_ j o ho;rw[hd]at C;simpa using C
 . intro i j o q t hi hj ho hq;by_cases e:i=j
   . exact e
   . obtain⟨_,_,h3⟩:=at_ j q hj;have:=h3 i (aY.1 hi).1 e;simp only[FJ,hi,hj,ho,hq,ay,bZ]at this;have h1:=this.1;rw[Nat.beq_refl]at h1;cases h1
 . intro i j o q t hi hj jD ho ht;obtain⟨_,_,h3⟩:=at_ j q hj;have hil:=(aY.1 hi).1;have OT:=(aY.1 hj).1;have:=h3 i hil jD;have A:(uT ops q).contains t=true:=by simpa using ht
   simp only[FJ,hi,hj,ho,ay,A,if_true,L i hil,L j OT]at this;have C:=this.2;split
   . rename_i q;rw[aF q]at C;exact C
   . rename_i q;rw[aD q]at C;exact C
abbrev uH:=Nat×Nat×I es×Nat
def eY(h0:I es)(c0:Nat)(eA:List uH):Nat->Nat×I es×Nat
 |0=>(0,h0,c0)
 |c+1=>match eA[c]? with
  |some e=>e.2
  |none=>(0,h0,c0)
section
variable{h0:I es}{c0:Nat}{eA:List uH}{e:uH}
theorem qo{c:Nat}(h:c<=eA.length):eY h0 c0 (eA++[e]) c=eY h0 c0 eA c:=by
 cases c with
 |zero=>rfl
 |succ c=>simp only[eY];rw[bH S]
theorem xo:eY h0 c0 (eA++[e]) (eA.length+1)=e.2:=by
 simp[eY]
end
def tv(h0:I es)(c0:Nat)(eA:List uH):Nat->List (Nat×Nat×I es)
 |0=>[]
 |c+1=>match eA[c]? with
  |some e=>(e.1,(eY h0 c0 eA c).1,(eY h0 c0 eA c).2.1)::tv h0 c0 eA c
  |none=>tv h0 c0 eA c
theorem AZ{h0:I es}{c0:Nat}{eA:List uH}{e:uH}:∀c,c<=eA.length->tv h0 c0 (eA++[e]) c=tv h0 c0 eA c
 |0,_=>rfl
 |c+1,h=>by
  simp only[tv];rw[bH S,qo S,AZ c S]
structure zW(ops:Array Oper)(lH:I V)(val:Nat->V)(j:Nat)(F:I V):Prop where
 new:∀(i:Nat) (o:Oper) (t:Nat),i<j->ops[i]? =some o->o.dst=some t->F.get t=some (val i)
 old:∀(t:Nat),(∀(i:Nat) (o:Oper),i<j->ops[i]? =some o->o.dst≠some t)->F.get t=lH.get t
section
variable(P:Program)(cf:gu)(ops:Array Oper)(N:Nat)(h0:I es)(lH:I V)
def u9(val:Nat->V)(dM:af)(reads:List (Nat×Nat×Oper×I V×V))(eA:List uH)(j:Nat)(o:Oper):Prop:=
 ∃F,zW ops lH val j F/\
  ((gq ops o F=some false/\val j= .gK []) \/
   (gq ops o F=some true/\qd o.op=false/\(∃b,(j,b)∈dM/\N+j<gO/\∀y,eG P o F y (N+j)=some (.val (val j) (y.set (N+j) (some b)) (N+j+1)))) \/
   (gq ops o F=some true/\qd o.op=false/\(∀y,eG P o F y (N+j)=some (.val (val j) y (N+j)))) \/
   (gq ops o F=some true/\qd o.op=false/\(j,ig ops j,o,F,val j)∈reads/\
    ∀c,c<=eA.length->(∀(c':Nat) (e:uH),c<=c'->eA[c']? =some e->eT (ig ops j) e.1=false)->(∀(c':Nat) (e:uH),c'<c->eA[c']? =some e->eT e.2.1 j=false)->
     ∃y,eG P o F (gX N dM (eY h0 (N+ops.size) eA c).1 (eY h0 (N+ops.size) eA c).2.1 (ig ops j)) (N+j)=some (.val (val j) y (N+j))) \/
   (gq ops o F=some true/\qd o.op=true/\∃c h n,eA[c]? =some (j,ig ops j,h,n)/\
    (let x:=eY h0 (N+ops.size) eA c
     (eG P o F (gX N dM x.1 x.2.1 (ig ops j)) x.2.2=some (.val (val j) h n)) \/
     ∃f args,eG P o F (gX N dM x.1 x.2.1 (ig ops j)) x.2.2=some (.call f args)/\cf f args (gX N dM x.1 x.2.1 (ig ops j)) x.2.2=some (.ret (val j),h,n))))
def sk(val:Nat->V)(j:Nat)(o:Oper)(b:es):Prop:=
 ∃F,zW ops lH val j F/\gq ops o F=some true/\qd o.op=false/\N+j<gO/\b.wr=true/\∀y,eG P o F y (N+j)=some (.val (val j) (y.set (N+j) (some b)) (N+j+1))
structure mU(val:Nat->V)(eA:List uH)(i:Nat)(d:Dr):Prop where
 eX:d.eX=pb (ops.toList.take i)
 F:zW ops lH val i d.F
 cur:d.cur=((eY h0 (N+ops.size) eA eA.length).1,(eY h0 (N+ops.size) eA eA.length).2.1)
 n:d.n=(eY h0 (N+ops.size) eA eA.length).2.2
 oF:d.oF=tv h0 (N+ops.size) eA eA.length
 last:d.last=(eA.getLast?).map (·.1)
 uj:∀(c:Nat) (e:uH),eA[c]? =some e->e.1<i/\∃o:Oper,ops[e.1]? =some o/\qd o.op=true/\e.2.1=ig ops e.1
 dM:∀x∈d.dM,x.1<i
 one:∀(j:Nat) (b b':es),(j,b)∈d.dM->(j,b')∈d.dM->b=b'
 zX:∀(c:Nat) (e:uH) (o:Oper),eA[c]? =some e->ops[e.1]? =some o->∃F,zW ops lH val e.1 F/\gq ops o F=some true
 BV:∀(j:Nat) (o:Oper) (b:es),(j,b)∈d.dM->ops[j]? =some o->sk P ops N lH val j o b
 chain:∀(c c':Nat) (e e':uH),c'<c->eA[c]? =some e->eA[c']? =some e'->eT (ig ops e.1) e'.1=true
 XZ:∀(j:Nat) (o:Oper),j<i->ops[j]? =some o->u9 P cf ops N h0 lH val d.dM d.reads eA j o
end
mutual
theorem TT:∀(a b:D),D.beq a b=true->a=b
 | .bool a,b,h=>by cases b<;>simp[D.beq]at h;rw[h]
 | .int k a,b,h=>by cases b<;>simp[D.beq]at h;rw[h.1,h.2]
 | .str a,b,h=>by
   cases b<;>simp only[D.beq]at h<;>first|(cases h;done)|skip
   rw[kM]at h;rw[eq_of_beq h]
 | .eM n a,b,h=>by
   cases b<;>simp only[D.beq]at h<;>first|(cases h;done)|skip
   simp only[ay]at h;rw[aJ h.1,vb _ _ h.2]
 | .agg a,b,h=>by
   cases b<;>simp only[D.beq]at h<;>first|(cases h;done)|skip
   rw[vb _ _ h]
theorem vb:∀(a b:ai),D.pn a b=true->a=b
 | [],b,h=>by cases b<;>simp[D.pn]at h;rfl
 |x::xs,b,h=>by
  cases b with
  |nil=>simp[D.pn]at h
  |cons y ys=>
   simp only[D.pn,ay]at h;rw[TT x y h.1,vb xs ys h.2]
end
mutual
theorem NG:∀(a:D),D.beq a a=true
 | .bool a=>by simp[D.beq]
 | .int k a=>by simp[D.beq]
 | .str a=>by simp only[D.beq];rw[kM];simp
 | .eM n a=>by simp only[D.beq,Nat.beq_refl,qp a,Bool.and_self]
 | .agg a=>by simp only[D.beq,qp a]
theorem qp:∀(a:ai),D.pn a a=true
 | []=>rfl
 |x::xs=>by simp only[D.pn,NG x,qp xs,Bool.and_self]
end
mutual
theorem F5:∀(a b:V),V.beq a b=true->a=b
 | .bool a,b,h=>by cases b<;>simp[V.beq]at h;rw[h]
 | .int k a,b,h=>by cases b<;>simp[V.beq]at h;rw[h.1,h.2]
 | .str a,b,h=>by
   cases b<;>simp only[V.beq]at h<;>first|(cases h;done)|skip
   rw[kM]at h;rw[eq_of_beq h]
 | .ptr a,b,h=>by
   cases b<;>simp only[V.beq]at h<;>first|(cases h;done)|skip
   rw[CR _ _ h]
 | .fk a l c e,b,h=>by
   cases b<;>simp only[V.beq]at h<;>first|(cases h;done)|skip
   simp only[ay]at h;obtain⟨⟨⟨h1,C⟩,h3⟩,h4⟩:=h;rw[CR _ _ h1,aJ C,aJ h3,aJ h4]
 | .map a,b,h=>by
   cases b<;>simp only[V.beq]at h<;>first|(cases h;done)|skip
   rename_i c;cases a<;>cases c<;>simp only[FH]at h<;>first|(cases h;done)|skip
   . rfl
   . rw[aJ h]
 | .fn f a c,b,h=>by
   cases b<;>simp only[V.beq]at h<;>first|(cases h;done)|skip
   rename_i g b d;simp only[ay]at h;obtain⟨⟨h1,C⟩,h3⟩:=h;rw[vQ a b C,vQ c d h3];cases f<;>cases g<;>simp only[Pc]at h1<;>first|(cases h1;done)|skip
   all_goals rw[aJ h1]
 | .kU,b,h=>by cases b<;>simp only[V.beq]at h<;>first|(cases h;done)|rfl
 | .iface t x,b,h=>by
   cases b<;>simp only[V.beq]at h<;>first|(cases h;done)|skip
   rename_i u y;simp only[ay]at h;rw[aJ h.1,F5 x y h.2]
 | .nilIface,b,h=>by cases b<;>simp only[V.beq]at h<;>first|(cases h;done)|rfl
 | .agg a,b,h=>by
   cases b<;>simp only[V.beq]at h<;>first|(cases h;done)|skip
   rw[vQ _ _ h]
 | .gK a,b,h=>by
   cases b<;>simp only[V.beq]at h<;>first|(cases h;done)|skip
   rw[vQ _ _ h]
 | .eM f n a,b,h=>by
   cases b<;>simp only[V.beq]at h<;>first|(cases h;done)|skip
   simp only[ay,ct]at h;rw[h.1,aJ h.2.1,vb _ _ h.2.2]
 | .eo a,b,h=>by
   cases b<;>simp only[V.beq]at h<;>first|(cases h;done)|skip
   rw[vb _ _ h]
theorem vQ:∀(a b:ag),V.pn a b=true->a=b
 | [],b,h=>by cases b<;>simp only[V.pn]at h<;>first|(cases h;done)|rfl
 |x::xs,b,h=>by
  cases b<;>simp only[V.pn]at h<;>first|(cases h;done)|skip
  simp only[ay]at h;rw[F5 x _ h.1,vQ xs _ h.2]
theorem CR:∀(a b:Option (Nat×Nat)),qO a b=true->a=b
 |none,b,h=>by cases b<;>simp only[qO]at h<;>first|(cases h;done)|rfl
 |some (x,y),b,h=>by
  cases b<;>simp only[qO]at h<;>first|(cases h;done)|skip
  simp only[ay]at h;rw[aJ h.1,aJ h.2]
end
theorem yz{P:Program}{N i:Nat}{o:Oper}{F:I V}{v:V}{x:I es}(h:mQ P N i o F v x=true):∃y,eG P o F x (N+i)=some (.val v y (N+i)):=by
 unfold mQ at h;split at h
 . rename_i u y k e;simp only[ay]at h;have h1:=aJ h.1;have C:=F5 _ _ h.2;subst h1;subst C;exact⟨y,e⟩
 . cases h
theorem NH{N i:Nat}{b:es}{l:af}{m:Nat}{x:I es}{iM:Nat}(h:eT iM i=false):gX N ((i,b)::l) m x iM=gX N l m x iM:=by
 simp[gX,h]
theorem ER{P:Program}{N i:Nat}{o:Oper}{F:I V}{v:V}{dM:af}{iM:Nat}{h0:I es}{c0:Nat}{eA:List uH}:
  ∀k,k<=eA.length->qe P N i o F v dM iM (tv h0 c0 eA k)=true->∀c,c<k->(∀(c':Nat) (e:uH),c<=c'->c'<k->eA[c']? =some e->eT iM e.1=false)->
   ∃y,eG P o F (gX N dM (eY h0 c0 eA c).1 (eY h0 c0 eA c).2.1 iM) (N+i)=some (.val v y (N+i))
 |0,_,_,c,A,_=>by omega
 |k+1,hk,h,c,A,hn=>by
  have he:eA[k]? =some eA[k]:=au S;simp only[tv,he,qe]at h;have U:=hn k eA[k] S S he;rw[U]at h;simp only[aM,cI,ay]at h;by_cases q:c=k
  . subst q;exact yz h.1
  . exact ER k S h.2 c S fun c' e h1 C h3=>hn c' e h1 S h3
theorem CS{P:Program}{N:Nat}{dM:af}{m:Nat}{x:I es}:∀(l:List (Nat×Nat×Oper×I V×V)),pz P N dM m x l=true->
  ∀j iM o F v,(j,iM,o,F,v)∈l->eT m j=false->∃y,eG P o F (gX N dM m x iM) (N+j)=some (.val v y (N+j))
 | [],_,j,iM,o,F,v,L,_=>by simp at L
 |(j',axq,o',fr',v')::l,h,j,iM,o,F,v,L,U=>by
  simp only[pz,ay,cq]at h;rcases aA.1 L with q|q
  . cases q;rcases h.1 with h1|h1
    . rw[U]at h1;cases h1
    . exact yz h1
  . exact CS l h.2 j iM o F v q U
section
variable{P:Program}{cf:gu}{ops:Array Oper}{N n0:Nat}{h0:I es}{lH:I V}
theorem zW.mono{val iN:Nat->V}{j:Nat}{F:I V}(h:zW ops lH val j F)(hv:∀k,k<j->iN k=val k):zW ops lH iN j F:=
 ⟨fun i o t hi ho hd=>by rw[hv i hi];exact h.new i o t hi ho hd,h.old⟩
theorem zW.step{val iN:Nat->V}{i:Nat}{F fr':I V}{o:Oper}{v:V}(hr:lP ops n0)(ho:ops[i]? =some o)(h:zW ops lH val i F)(hv:∀k,k<i->iN k=val k)(hi:iN i=v)
  (e:jR F o.dst v=some fr'):zW ops lH iN (i+1) fr':=by
 have h':=h.mono hv;cases hd:o.dst with
 |none=>
  rw[hd]at e;simp only[jR,aq]at e;subst e;refine⟨fun k q t hk hq ht=>?_,fun t ht=>h'.old t fun k q hk hq=>ht k q S hq⟩;by_cases c:k=i
  . subst c;rw[ho]at hq;cases hq;rw[hd]at ht;cases ht
  . exact h'.new k q t S hq ht
 |some d=>
  rw[hd]at e;simp only[jR]at e;split at e
  . rename_i ir;obtain rfl:=eZ e;refine⟨fun k q t hk hq ht=>?_,fun t ht=>?_⟩
    . by_cases c:k=i
      . subst c;rw[ho]at hq;cases hq;rw[hd]at ht;cases ht;rw[I.pE _ _ ir,hi]
      . have jD:t≠d:=by
         intro q';subst q';exact c (hr.one k i q o t hq ho ht hd)
        rw[I.w6 _ _ ir jD];exact h'.new k q t S hq ht
    . have jD:t≠d:=by intro q;subst q;exact ht i o S ho hd
      rw[I.w6 _ _ ir jD];exact h'.old t fun k q hk hq=>ht k q S hq
  . cases e
theorem X3{he:vP ops}{j i:Nat}(h:j<=i):eT (ig ops j) i=false:=by
 cases q:eT (ig ops j) i with
 |false=>rfl
 |true=>have:=Kt he j i q;omega
theorem sk.mono{val iN:Nat->V}{j:Nat}{o:Oper}{b:es}(h:sk P ops N lH val j o b)(hv:∀k,k<=j->iN k=val k):sk P ops N lH iN j o b:=by
 obtain⟨F,f1,f2,f3,f4,f6,f5⟩:=h;exact⟨F,f1.mono fun k hk=>hv k S,f2,f3,f4,f6,fun y=>by rw[hv j (aK _)];exact f5 y⟩
theorem u9.quiet{val iN:Nat->V}{dM lA:af}{reads xp:List (Nat×Nat×Oper×I V×V)}{eA:List uH}{j:Nat}{o:Oper}
  (h:u9 P cf ops N h0 lH val dM reads eA j o) (hv:∀k,k<=j->iN k=val k) (ha:∀x∈dM,x∈lA) (hr:∀x∈reads,x∈xp)
  (ES:∀m x,gX N lA m x (ig ops j)=gX N dM m x (ig ops j)):u9 P cf ops N h0 lH iN lA xp eA j o:=by
 obtain⟨F,f1,f2⟩:=h;refine⟨F,f1.mono fun k hk=>hv k S,?_⟩;have hj:=hv j (aK _);rw[hj];rcases f2 with q|⟨q1,q2,b,q3,q4,q5⟩|q|⟨q1,q2,q3,q4⟩|⟨q1,q2,c,h,n,q3,q4⟩
 . exact .inl q
 . exact .inr (.inl ⟨q1,q2,b,ha _ q3,q4,q5⟩)
 . exact .inr (.inr (.inl q))
 . refine .inr (.inr (.inr (.inl ⟨q1,q2,hr _ q3,fun c A h1 C=>?_⟩)));rw[ES];exact q4 c A h1 C
 . refine .inr (.inr (.inr (.inr ⟨q1,q2,c,h,n,q3,?_⟩)));simp only[ES];exact q4
theorem u9.effect{val iN:Nat->V}{dM:af}{reads:List (Nat×Nat×Oper×I V×V)}{eA:List uH}{e:uH}{j:Nat}{o:Oper}
  (h:u9 P cf ops N h0 lH val dM reads eA j o) (hv:∀k,k<=j->iN k=val k) (mY:pz P N dM e.2.1 e.2.2.1 reads=true):
  u9 P cf ops N h0 lH iN dM reads (eA++[e]) j o:=by
 obtain⟨F,f1,f2⟩:=h;refine⟨F,f1.mono fun k hk=>hv k S,?_⟩;have hj:=hv j (aK _);rw[hj];rcases f2 with q|q|q|⟨q1,q2,q3,q4⟩|⟨q1,q2,c,h,n,q3,q4⟩
 . exact .inl q
 . exact .inr (.inl q)
 . exact .inr (.inr (.inl q))
 . refine .inr (.inr (.inr (.inl ⟨q1,q2,q3,fun c A h1 C=>?_⟩)));simp only[az,aN,cm]at A;by_cases cl:c<=eA.length
   . rw[qo cl];refine q4 c cl (fun c' e' Ku BE=>h1 c' e' Ku ?_) (fun c' e' Ku BE=>C c' e' Ku ?_)
     . rw[bH (aS.1 BE).1];exact BE
     . rw[bH (aS.1 BE).1];exact BE
   . have vN:c=eA.length+1:=by omega
     subst vN;rw[xo];exact CS reads mY j _ o F _ q3 (C eA.length e S (by simp))
 . have A:=(aS.1 q3).1;refine .inr (.inr (.inr (.inr ⟨q1,q2,c,h,n,by rw[bH A];exact q3,?_⟩)));rw[qo S];exact q4
theorem NI{val:Nat->V}{eA:List uH}{i:Nat}{d:Dr}(hr:lP ops n0)(f:mU P cf ops N h0 lH val eA i d)(hl:zI (ig ops i) d.last=true):
  ∀(c:Nat) (e:uH),eA[c]? =some e->eT (ig ops i) e.1=true:=by
 intro c e he;have A:=(aS.1 he).1;rw[f.last]at hl;have hg:eA.getLast? =some (eA[eA.length-1]'(by omega)):=by
  rw[List.getLast?_eq_getElem?,au]
 rw[hg]at hl;simp only[bz,zI]at hl;by_cases q:c=eA.length-1
 . subst q;rw[au S]at he;cases he;exact hl
 . exact EP hr.wL i _ _ hl (f.chain (eA.length-1) c _ e S (au S) he)
theorem ET{val:Nat->V}{eA:List uH}{i:Nat}{d d':Dr}{o:Oper}{v:V}{h:I es}{n:Nat}(hr:lP ops n0)(ho:ops[i]? =some o)(f:mU P cf ops N h0 lH val eA i d)
  (hw:gq ops o d.F=some true) (CT:qd o.op=true) (hl:zI (ig ops i) d.last=true) (ha:kW P N i (ig ops i) o d v h n=some d')
  (L:pb (ops.toList.take (i+1))=d.eX++[ig ops i])
  (run:(eG P o d.F (gX N d.dM d.cur.1 d.cur.2 (ig ops i)) d.n=some (.val v h n)) \/
   ∃g args,eG P o d.F (gX N d.dM d.cur.1 d.cur.2 (ig ops i)) d.n=some (.call g args)/\cf g args (gX N d.dM d.cur.1 d.cur.2 (ig ops i)) d.n=some (.ret v,h,n)):
  ∃iN qq,mU P cf ops N h0 lH iN qq (i+1) d':=by
 unfold kW at ha;split at ha
 . rename_i F hp;split at ha
   . rename_i mY;obtain rfl:=eZ ha
     let iN:Nat->V:=fun k=>if k=i then v else val k
     have Iu:iN i=v:=by simp[iN]
     have hv:∀k,k<i->iN k=val k:=fun k hk=>by simp[iN,show k≠i by omega]
     refine⟨iN,eA++[(i,ig ops i,h,n)],?_⟩;have jJ:(eA++[(i,ig ops i,h,n)]).length=eA.length+1:=by simp
     refine⟨L.symm,f.F.step hr ho hv Iu hp,?_,?_,?_,by simp,?_,fun x K=>by have:=f.dM x K;omega,f.one,fun c e q he hq=>?_,fun j q b U hq=>(f.BV j q b U hq).mono fun k hk=>hv k (by have:=f.dM _ U;simp at this;omega),?_,?_⟩
     . rw[jJ,xo]
     . rw[jJ,xo]
     . rw[jJ];simp only[tv];rw[dc S];simp only[Nat.sub_self,cT];rw[qo (aK _),AZ _ (aK _),<- f.oF,f.cur]
     . intro c e he;by_cases q:c<eA.length
       . rw[bH q]at he;obtain⟨h1,C⟩:=f.uj c e he;exact⟨S,C⟩
       . have A:=(aS.1 he).1;simp at A;have:c=eA.length:=by omega
         subst this;simp at he;subst he;exact⟨by simp,o,ho,CT,rfl⟩
     . by_cases q2:c<eA.length
       . rw[bH q2]at he;obtain⟨h1,_⟩:=f.uj c e he;obtain⟨PE,g1,g2⟩:=f.zX c e q he hq;exact⟨PE,g1.mono fun k hk=>hv k S,g2⟩
       . have A:=(aS.1 he).1;simp at A;have:c=eA.length:=by omega
         subst this;simp at he;subst he;simp only at hq;rw[ho]at hq;cases hq;exact⟨d.F,f.F.mono hv,hw⟩
     . intro c c' e e' PF he BE;have A:=(aS.1 he).1;simp at A;have Ku:c'<eA.length:=by omega
       rw[bH Ku]at BE;by_cases q:c<eA.length
       . rw[bH q]at he;exact f.chain c c' e e' PF he BE
       . have:c=eA.length:=by omega
         subst this;simp at he;subst he;exact NI hr f hl c' e' BE
     . intro j q hj hq;by_cases c:j=i
       . subst c;rw[ho]at hq;cases hq;refine⟨d.F,f.F.mono hv,.inr (.inr (.inr (.inr ⟨hw,CT,eA.length,h,n,by simp,?_⟩)))⟩;rw[qo (aK _),Iu];have ac7:=f.cur;have hn:=f.n;have e1:d.cur.1=(eY h0 (N+ops.size) eA eA.length).1:=by rw[ac7]
         have e2:d.cur.2=(eY h0 (N+ops.size) eA eA.length).2.1:=by rw[ac7]
         rw[e1,e2,hn]at run;exact run
       . exact(f.XZ j q S hq).effect (fun k hk=>hv k S) mY
   . cases ha
 . cases ha
theorem CU{val:Nat->V}{eA:List uH}{i:Nat}{d d':Dr}{o:Oper}(hr:lP ops n0)(ho:ops[i]? =some o)(f:mU P cf ops N h0 lH val eA i d)
  (e:mc P cf ops N i o d=some (.inl d')):∃iN qq,mU P cf ops N h0 lH iN qq (i+1) d':=by
 have hi:i<ops.size:=(aY.1 ho).1;have BF:fH d.eX o.after.toList=ig ops i:=by rw[f.eX];unfold ig;rw[ho]
 have L:pb (ops.toList.take (i+1))=d.eX++[ig ops i]:=by
  rw[EO (by rw[bU];exact ho),CN,<- f.eX,BF]
 unfold mc at e;simp only[BF]at e;have vR:∀(v:V) (F:I V) (lA:af) (xp:List (Nat×Nat×Oper×I V×V)),jR d.F o.dst v=some F->(∀x∈d.dM,x∈lA)->(∀x∈d.reads,x∈xp)->
   (∀j m x,j<=i->gX N lA m x (ig ops j)=gX N d.dM m x (ig ops j))->(∀x∈lA,x.1<i+1)->(∀j b b',(j,b)∈lA->(j,b')∈lA->b=b')->
   (∀iN,(∀k,k<i->iN k=val k)->iN i=v->∀b,(i,b)∈lA->sk P ops N lH iN i o b)->(∀x∈lA,x.1≠i->x∈d.dM)->
   (∀iN,(∀k,k<i->iN k=val k)->iN i=v->u9 P cf ops N h0 lH iN lA xp eA i o)->
   ∃iN qq,mU P cf ops N h0 lH iN qq (i+1) { d with F:=F,eX:=d.eX++[ig ops i],dM:=lA,reads:=xp }:=by
  intro v F lA xp hp ha hrd ES hai Kh hal ajQ pG
  let iN:Nat->V:=fun k=>if k=i then v else val k
  have Iu:iN i=v:=by simp[iN]
  have hv:∀k,k<i->iN k=val k:=fun k hk=>by simp[iN,show k≠i by omega]
  refine⟨iN,eA,⟨L.symm,f.F.step hr ho hv Iu hp,f.cur,f.n,f.oF,f.last,fun c e he=>?_,hai,Kh,fun c e q he hq=>?_,fun j q b U hq=>?_,f.chain,fun j q hj hq=>?_⟩⟩
  . obtain⟨h1,C⟩:=f.uj c e he;exact⟨S,C⟩
  . obtain⟨h1,_⟩:=f.uj c e he;obtain⟨PE,g1,g2⟩:=f.zX c e q he hq;exact⟨PE,g1.mono fun k hk=>hv k S,g2⟩
  . by_cases c:j=i
    . subst c;rw[ho]at hq;cases hq;exact hal iN hv Iu b U
    . have D3:=ajQ _ U c;exact(f.BV j q b D3 hq).mono fun k hk=>hv k (by have:=f.dM _ D3;simp at this;omega)
  . by_cases c:j=i
    . subst c;rw[ho]at hq;cases hq;exact pG iN hv Iu
    . exact(f.XZ j q S hq).quiet (fun k hk=>hv k S) ha hrd fun m x=>ES j m x S
 have e1:d.cur.1=(eY h0 (N+ops.size) eA eA.length).1:=by rw[f.cur]
 have e2:d.cur.2=(eY h0 (N+ops.size) eA eA.length).2.1:=by rw[f.cur]
 split at e
 . rename_i hw;split at e
   . rename_i F hp;simp only[aq,Sum.inl.injEq]at e;subst e;exact vR (.gK []) F d.dM d.reads hp (fun _ h=>h) (fun _ h=>h) (fun _ _ _ _=>rfl) (fun x K=>by have:=f.dM x K;omega) f.one (fun _ _ _ b U=>by have:=f.dM _ U;simp at this) (fun _ K _=>K)
      fun iN hv Iu=>⟨d.F,f.F.mono hv,.inl ⟨hw,Iu⟩⟩
   . cases e
 . rename_i hw;split at e
   . rename_i CT;split at e
     . rename_i hl;split at e
       . rename_i v h n hs;split at e
         . rename_i T ha;simp only[aq,Sum.inl.injEq]at e;subst e;exact ET hr ho f hw CT hl ha L (.inl hs)
         . cases e
       . rename_i g args hs;split at e
         . rename_i v h n A;split at e
           . rename_i T ha;simp only[aq,Sum.inl.injEq]at e;subst e;exact ET hr ho f hw CT hl ha L (.inr ⟨g,args,hs,A⟩)
           . cases e
         . split at e
           . cases e
           . cases e
         . cases e
       . cases e
     . cases e
   . rename_i CT;have Iv:qd o.op=false:=by simpa using CT
     split at e
     . rename_i v h k hs;split at e
       . rename_i F hp;have hq:=quiet Iv hs;split at e
         . rename_i hk;have rB:=aJ hk;subst rB;split at e
           . rename_i ac8;simp only[aq,Sum.inl.injEq]at e;subst e;obtain⟨u,h1,C⟩:=Ir ac8 hs;cases h1;exact vR v F d.dM d.reads hp (fun _ h=>h) (fun _ h=>h) (fun _ _ _ _=>rfl) (fun x K=>by have:=f.dM x K;omega) f.one (fun _ _ _ b U=>by have:=f.dM _ U;simp at this) (fun _ K _=>K)
              fun iN hv Iu=>⟨d.F,f.F.mono hv,.inr (.inr (.inl ⟨hw,Iv,fun y=>by rw[Iu];exact C y _⟩))⟩
           . split at e
             . rename_i oF;simp only[aq,Sum.inl.injEq]at e;subst e;refine vR v F d.dM ((i,ig ops i,o,d.F,v)::d.reads) hp (fun _ h=>h) (fun x K=>by simp[K]) (fun _ _ _ _=>rfl) (fun x K=>by have:=f.dM x K;omega) f.one (fun _ _ _ b U=>by have:=f.dM _ U;simp at this) (fun _ K _=>K)
                fun iN hv Iu=>⟨d.F,f.F.mono hv,.inr (.inr (.inr (.inl ⟨hw,Iv,by simp[Iu],fun c A h1 _=>?_⟩)))⟩
               rw[Iu];by_cases q:c=eA.length
               . subst q;rw[<- e1,<- e2];exact⟨h,hs⟩
               . rw[f.oF]at oF;exact ER eA.length (aK _) oF c S fun c' e' q1 _ q3=>h1 c' e' q1 q3
             . cases e
         . rename_i hk;split at e
           . rename_i b U;split at e
             case isFalse=>cases e
             rename_i hwr;simp only[aq,Sum.inl.injEq]at e;subst e;rcases hq with⟨u,h1,_⟩|⟨u,b',h1,C,h3⟩
             . cases h1;exact absurd (Nat.beq_refl _) hk
             . cases C;rw[I.pE _ _ h1]at U;cases U;refine vR v F ((i,b)::d.dM) d.reads hp (fun x K=>by simp[K]) (fun _ h=>h) (fun j m x hj=>NH (X3 (he:=hr.wL) hj)) (fun x K=>?_) (fun j c c' A Ku=>?_) (fun iN hv Iu c A=>?_) (fun x K jD=>?_)
                fun iN hv Iu=>⟨d.F,f.F.mono hv,.inr (.inl ⟨hw,Iv,b,by simp,h1,fun y=>by rw[Iu];exact h3 y⟩)⟩
               . rcases aA.1 K with rfl|K
                 . simp
                 . have:=f.dM x K;omega
               . rcases aA.1 A with q|q<;>rcases aA.1 Ku with q'|q'
                 . cases q;cases q';rfl
                 . cases q;have:=f.dM _ q';simp at this
                 . cases q';have:=f.dM _ q;simp at this
                 . exact f.one j c c' q q'
               . rcases aA.1 A with q|q
                 . cases q;exact⟨d.F,f.F.mono hv,hw,Iv,h1,hwr,fun y=>by rw[Iu];exact h3 y⟩
                 . have:=f.dM _ q;simp at this
               . rcases aA.1 K with q|q
                 . cases q;exact absurd rfl jD
                 . exact q
           . cases e
       . cases e
     . cases e
 . cases e
theorem xq(F:I V)(h:I es):mU P cf ops N h F (fun _=>.kU) [] 0 { F:=F,eX:=[],cur:=(0,h),oF:=[],last:=none,dM:=[],reads:=[],n:=N+ops.size }:=by
 refine⟨by simp[pb],⟨fun i o t hi=>by omega,fun t _=>rfl⟩,rfl,rfl,rfl,rfl,fun c e he=>by simp at he,fun x K=>by simp at K,fun j b b' U=>by simp at U,fun c e o he=>by simp at he,fun j o b U=>by simp at U,fun c c' e e' _ he=>by simp at he,fun j o hj=>by omega⟩
theorem EU(hr:lP ops n0):∀(l:List Oper) (i:Nat) (d:Dr) (val:Nat->V) (eA:List uH) (r:Dr ⊕ (I V×V×I es×Nat)),l=ops.toList.drop i->mU P cf ops N h0 lH val eA i d->
  jf P cf ops N l i d=some r->
  match r with
  | .inl d'=>∃iN qq,mU P cf ops N h0 lH iN qq (max i ops.size) d'
  | .inr x=>∃j o d' iN qq,ops[j]? =some o/\mU P cf ops N h0 lH iN qq j d'/\mc P cf ops N j o d'=some (.inr x)
 | [],i,d,val,eA,r,hl,f,e=>by
   simp only[jf,aq]at e;subst e;have hi:ops.size<=i:=by
    have:=aG List.length hl;simp at this;omega
   rw[Nat.max_eq_left hi];exact⟨val,eA,f⟩
 |o::l,i,d,val,eA,r,hl,f,e=>by
  have hi:i<ops.size:=by
   have:=aG List.length hl;simp at this;omega
  have ho:ops[i]? =some o:=by
   have:=aG (fun x=>x[0]?) hl;simp at this;exact this.symm
  have hl':l=ops.toList.drop (i+1):=by
   have:=aG List.tail hl;simpa using this
  simp only[jf]at e;split at e
  . rename_i T hs;obtain⟨iN,qq,f'⟩:=CU hr ho f hs;have:=EU hr l (i+1) T iN qq r hl' f' e;cases r with
    |inl d'=>rw[show max (i+1) ops.size=max i ops.size by omega]at this;exact this
    |inr x=>exact this
  . rename_i x K;cases r with
    |inl d'=>exact absurd e (K d')
    |inr y=>exact⟨i,o,d,val,eA,ho,f,e⟩
end
theorem Good.ext{E:Env}{h h':I es}{w:World}(g:Good E h w)(e:∀k,h'.get k=h.get k):Good E h' w:=g.sub fun m o q=>by rw[<- e];exact q
theorem jt.ext{E E':Env}{h h' C:I es}{w w':World}(u:jt E h w E' h' w')(e:∀k,C.get k=h'.get k):jt E h w E' C w':=
 ⟨u.le,u.good.ext e,u.size,u.tape,u.os,u.output,u.keep,fun m b s L q U=>let⟨m0,s0,a1,a2,a3⟩:=u.wj m b s (by rw[<- e];exact L) q U;⟨m0,s0,a1,a2,fun c=>a3 (Pj (e m) c)⟩,u.FM⟩
theorem jt.frame{E E':Env}{h x y z:I es}{w w':World}(g:Good E h w)(K:Sub x h)(u:jt E x w E' y w')
  (hz:∀k,z.get k=match y.get k with|some o=>some o|none=>if x.get k=none then h.get k else none):jt E h w E' z w':=by
 have rest:∀k o,h.get k=some o->x.get k=none->∃b s,E.ι k=some (b,s)/\E'.ι k=some (b,s)/\E'.β b=E.β b/\b<w.heap.size/\w'.heap[b]? =w.heap[b]?/\(∀m T,fu y m->E'.ι m≠some (b,T))/\(o.wr=true->∀m T,y.get m≠none->E'.ι m≠some (b,T))/\nT E w b s o:=by
  intro k o hk hxk;obtain⟨b,s,h1,C⟩:=g.rel k o hk;have U:=g.qG k b s h1;have jD:∀m,x.get m≠none->m≠k:=by intro m L e;subst e;exact L hxk
  have AW:∀m T,fu x m->E.ι m≠some (b,T):=by
   intro m T L q;exact g.inj m k b T s (jD m L.live) (iK K L) (by rw[hk];simp) q h1
  have ajS:o.wr=true->∀m T,x.get m≠none->E.ι m≠some (b,T):=by
   intro ho m T L q;exact g.inj k m b s T (fun e=>jD m L e.symm) ⟨o,hk,ho⟩ (qi K L) h1 q
  refine⟨b,s,h1,(u.le.nm k b s h1).1,(u.le.nm k b s h1).2,U,u.keep b U AW,?_,?_,C⟩
  . intro m T L q;obtain⟨m0,s0,a1,a2,a3⟩:=u.wj m b T L.live q U;exact AW m0 s0 (a3 L) a2
  . intro ho m T L q;obtain⟨m0,s0,a1,a2,a3⟩:=u.wj m b T L q U;exact ajS ho m0 s0 a1 a2
 have zc:∀k o,z.get k=some o->y.get k=some o\/(y.get k=none/\x.get k=none/\h.get k=some o):=by
  intro k o q;rw[hz]at q;split at q
  . rename_i o' hy;cases q;exact .inl hy
  . rename_i hy;split at q
    . rename_i Ti;exact .inr ⟨hy,Ti,q⟩
    . cases q
 have old:∀k o b s,h.get k=some o->o.wr=true->x.get k=none->E.ι k=some (b,s)->∀c,E'.φ b≠some c:=by
  intro k o b s hk ho hxk e c A;rcases u.FM b c A with q|q|⟨m,T,q1,q2⟩
  . exact(g.jG b c q).2 k s ⟨o,hk,ho⟩ e
  . have:=g.qG k b s e;omega
  . exact g.inj m k b T s (fun q=>by subst q;exact q1.live hxk) (iK K q1) (by rw[hk];simp) q2 e
 refine⟨u.le,⟨?_,?_,u.good.qG,u.good.lG,fun b c A=>⟨(u.good.jG b c A).1,fun m s L e=>?_⟩⟩,u.size,u.tape,u.os,u.output,?_,?_,?_⟩
 case refine_3=>
  obtain⟨o,L,ho⟩:=L;rcases zc m o L with ym|⟨ym,Ti,hh⟩
  . exact(u.good.jG b c A).2 m s ⟨o,ym,ho⟩ e
  . obtain⟨b',t,h1,C,_⟩:=rest m o hh Ti;rw[C]at e;cases e;exact old m o b s hh ho Ti h1 c A
 case refine_6=>
  intro b c A;rcases u.FM b c A with q|q|⟨m,s,q1,q2⟩
  . exact .inl q
  . exact .inr (.inl q)
  . exact .inr (.inr ⟨m,s,iK K q1,q2⟩)
 . intro m o L;rcases zc m o L with hy|⟨hy,Ti,L⟩
   . exact u.good.rel m o hy
   . obtain⟨b,s,h1,C,h3,h4,h5,h6,h6',h7⟩:=rest m o L Ti;exact⟨b,s,C,jV u.le h3 h5 h7⟩
 . intro m m' b s T jD L ue e e';obtain⟨o,L,ho⟩:=L;obtain⟨o',ue⟩:=bK.1 ue;rcases zc m o L with ym|⟨ym,Ti,hh⟩
   . rcases zc m' o' ue with ym'|⟨ym',X4,hh'⟩
     . exact u.good.inj m m' b s T jD ⟨o,ym,ho⟩ (by rw[ym'];simp) e e'
     . obtain⟨b',t,h1,C,h3,h4,h5,h6,h6',h7⟩:=rest m' o' hh' X4;rw[C]at e';cases e';exact h6 m s ⟨o,ym,ho⟩ e
   . obtain⟨b',t,h1,C,h3,h4,h5,h6,h6',h7⟩:=rest m o hh Ti;rw[C]at e;cases e;rcases zc m' o' ue with ym'|⟨ym',X4,hh'⟩
     . exact h6' ho m' T (by rw[ym'];simp) e'
     . obtain⟨b2,t2,k1,k2,_⟩:=rest m' o' hh' X4;rw[k2]at e';cases e';exact g.inj m m' _ _ _ jD ⟨o,hh,ho⟩ (by rw[hh'];simp) h1 k1
 . intro b U hn;exact u.keep b U fun m s L=>hn m s (iK K L)
 . intro m b s L e U;obtain⟨o,L⟩:=bK.1 L;have hw:fu z m->o.wr=true:=by rintro⟨o2,q1,q2⟩;rw[L]at q1;cases q1;exact q2
   rcases zc m o L with ym|⟨ym,Ti,hh⟩
   . obtain⟨m0,s0,a1,a2,a3⟩:=u.wj m b s (by rw[ym];simp) e U;exact⟨m0,s0,qi K a1,a2,fun q=>iK K (a3 ⟨o,ym,hw q⟩)⟩
   . obtain⟨b',t,h1,C,_⟩:=rest m o hh Ti;rw[C]at e;cases e;exact⟨m,_,by rw[hh];simp,h1,fun q=>⟨o,hh,hw q⟩⟩
theorem CV{N:Nat}{m:Nat}{x:I es}{iM k:Nat}:∀(l:af),(∀y∈l,N+y.1<gO)->
  (gX N l m x iM).get k=match l.find? (fun y=>Nat.beq (N+y.1) k&&eT iM y.1&& !eT m y.1)with|some y=>some y.2|none=>x.get k
 | [],_=>rfl
 |(i,o)::l,ht=>by
  have ih:=CV (k:=k) (m:=m) (x:=x) (iM:=iM) l fun y hy=>ht y (by simp[hy]);simp only[gX];by_cases U:(eT iM i&& !eT m i)=true
  . rw[aF U,I.gC _ _ _ (ht (i,o) (by simp))];by_cases q:k=N+i
    . subst q;rw[aF rfl,List.find?_cons_of_pos (by simp only[Nat.beq_refl,aP];exact U)]
    . rw[aD q,ih,List.find?_cons_of_neg];have:Nat.beq (N+i) k=false:=by
       cases hh:Nat.beq (N+i) k with
       |false=>rfl
       |true=>exact absurd (aJ hh).symm q
      simp[this]
  . rw[aD U,ih,List.find?_cons_of_neg];intro q;simp only[Bool.and_assoc]at q;rw[ay]at q;exact U q.2
section
variable{N m:Nat}{x:I es}
theorem jL{iM i:Nat}{b:es}{l:af}(ht:∀y∈l,N+y.1<gO)(one:∀(j:Nat) (b b':es),(j,b)∈l->(j,b')∈l->b=b')(hi:(i,b)∈l)
  (ha:eT iM i=true) (L:eT m i=false):(gX N l m x iM).get (N+i)=some b:=by
 rw[CV l ht];cases hf:l.find? (fun y=>Nat.beq (N+y.1) (N+i)&&eT iM y.1&& !eT m y.1)with
 |none=>
  have:=List.find?_eq_none.1 hf (i,b) hi;simp[Nat.beq_refl,ha,L]at this
 |some y=>
  have h1:=List.mem_of_find?_eq_some hf;have C:=List.find?_some hf;simp only[ay]at C;have h3:=aJ C.1.1;have h4:y.1=i:=by omega
  obtain⟨y1,y2⟩:=y;simp only at h4;subst h4;simp only[one y1 y2 b h1 hi]
theorem od{iM k:Nat}{l:af}(ht:∀y∈l,N+y.1<gO)(h:∀i b,(i,b)∈l->eT iM i=true->eT m i=false->k≠N+i):(gX N l m x iM).get k=x.get k:=by
 rw[CV l ht];cases hf:l.find? (fun y=>Nat.beq (N+y.1) k&&eT iM y.1&& !eT m y.1)with
 |none=>rfl
 |some y=>
  have h1:=List.mem_of_find?_eq_some hf;have C:=List.find?_some hf;simp only[ay,bZ]at C;exact absurd (aJ C.1.1).symm (h y.1 y.2 h1 C.1.2 C.2)
theorem ju{iM:Nat}{l:af}(ht:∀y∈l,N+y.1<gO)(one:∀(j:Nat) (b b':es),(j,b)∈l->(j,b')∈l->b=b')(k:Nat):
  (∃i b,(i,b)∈l/\eT iM i=true/\eT m i=false/\k=N+i/\(gX N l m x iM).get k=some b) \/
  ((∀i b,(i,b)∈l->eT iM i=true->eT m i=false->k≠N+i)/\(gX N l m x iM).get k=x.get k):=by
 by_cases h:∃i b,(i,b)∈l/\eT iM i=true/\eT m i=false/\k=N+i
 . obtain⟨i,b,h1,C,h3,rfl⟩:=h;exact .inl ⟨i,b,h1,C,h3,rfl,jL ht one h1 C h3⟩
 . have h':∀i b,(i,b)∈l->eT iM i=true->eT m i=false->k≠N+i:=fun i b h1 C h3 q=>h ⟨i,b,h1,C,h3,q⟩;exact .inr ⟨h',od ht h'⟩
end
def Iw(E:Env):fm->Exit->Prop
 | .normal,.normal=>True
 | .exit i,.exit j=>i=j
 | .ret,.ret=>True
 | .panic v,.panic chain=>∃v',eH E v v'/\chain=[{ v:=v',recovered:=false }]
 |_,_=>False
section
variable{P:Program}{cf:gu}{ops:Array Oper}{N n0 iy:Nat}{h0:I es}{lH:I V}{val:Nat->V}{eA:List uH}{d:Dr}{E0:Env}{w0:World}{yA:List Deferred}
structure Inv(ops:Array Oper)(N n0 iy:Nat)(h0:I es)(lH:I V)(val:Nat->V)(eA:List uH)(dM:af)(E0:Env)(w0:World)(yA:List Deferred)
  (dF:Nat->Bool) (ms iW:Nat) (E:Env) (a:Act) (w:World):Prop where
 bits:∀i,eT ms i=dF i
 PG:∀i,dF i=true->i<iy
 closed:∀(j:Nat) (o:Oper),dF j=true->ops[j]? =some o->∀e∈o.after,Region.binds .any e=true->dF e.on=true
 El:∀(c:Nat) (e:uH),eA[c]? =some e->(dF e.1=true↔c<iW)
 Jle:iW<=eA.length
 f1:∀(j:Nat) (o:Oper) (t:Nat),dF j=true->ops[j]? =some o->o.dst=some t->∃v',a.tmps[t]? =some v'/\eH E (val j) v'
 f2:∀(t:Nat) (v:V),lH.get t=some v->(∀(j:Nat) (o:Oper),dF j=true->ops[j]? =some o->o.dst≠some t)->∃v',a.tmps[t]? =some v'/\eH E v v'
 CH:jt E0 h0 w0 E (gX N dM (eY h0 (N+ops.size) eA iW).1 (eY h0 (N+ops.size) eA iW).2.1 ms) w
 old:∀k,k<N->E.ι k=E0.ι k
 rO:∀k p,E.ι k=some p->k<N\/(∃i b,(i,b)∈dM/\dF i=true/\k=N+i)\/(N+ops.size<=k/\k<(eY h0 (N+ops.size) eA iW).2.2)
 free:∀i,i<ops.size->eT (eY h0 (N+ops.size) eA iW).1 i=false->(eY h0 (N+ops.size) eA iW).2.1.get (N+i)=none
 D4:N+ops.size<=(eY h0 (N+ops.size) eA iW).2.2
 size:a.tmps.size=n0
 iZ:a.defers=yA
theorem Inv.iM(hr:lP ops n0){dM:af}{dF:Nat->Bool}{ms iW:Nat}{E:Env}{a:Act}{w:World}(Tr:Inv ops N n0 iy h0 lH val eA dM E0 w0 yA dF ms iW E a w){j k:Nat}(hj:dF j=true)(h:eT (ig ops j) k=true):dF k=true:=
 CP hr.wL (dF:=fun i=>dF i=true) (fun j o hs ho e he U=>Tr.closed j o hs ho e he U) j k hj h
theorem su(hr:lP ops n0){dF:Nat->Bool}(hS:∀(j:Nat) (o:Oper),dF j=true->ops[j]? =some o->∀e∈o.after,Region.binds .any e=true->dF e.on=true){j k:Nat}{o:Oper}(ho:ops[j]? =some o)
  (hd:∀e∈o.after,Region.binds .any e=true->dF e.on=true) (h:eT (ig ops j) k=true):dF k=true:=by
 obtain⟨e,h1,C,h3⟩:=(yy hr.wL ho).1 h;rcases h3 with rfl|h3
 . exact hd e h1 C
 . exact CP hr.wL (dF:=fun i=>dF i=true) hS e.on k (hd e h1 C) h3
theorem Inv.ada(hr:lP ops n0)(f:mU P cf ops N h0 lH val eA iy d){dF:Nat->Bool}{ms iW:Nat}{E:Env}{a:Act}{w:World}
  (Tr:Inv ops N n0 iy h0 lH val eA d.dM E0 w0 yA dF ms iW E a w) {i:Nat} (h:eT (eY h0 (N+ops.size) eA iW).1 i=true):dF i=true:=by
 cases iW with
 |zero=>simp[eY,jF]at h
 |succ c=>
  have A:c<eA.length:=by have:=Tr.Jle;omega
  have he:eA[c]? =some eA[c]:=au A;simp only[eY,he]at h;obtain⟨_,o,_,_,h3⟩:=f.uj c _ he;rw[h3]at h;exact Tr.iM hr ((Tr.El c _ he).2 S) h
theorem Inv.use(hr:lP ops n0){dM:af}{dF:Nat->Bool}{ms iW:Nat}{E:Env}{a:Act}{w:World}(Tr:Inv ops N n0 iy h0 lH val eA dM E0 w0 yA dF ms iW E a w)
  {j:Nat} {o:Oper} (ho:ops[j]? =some o) (hj:dF j=false) (hd:∀e∈o.after,Region.binds .any e=true->dF e.on=true) {F:I V} (hf:zW ops lH val j F) {t:Nat} (ht:t∈uT ops o) {v:V} (hv:F.get t=some v):
  ∃v',a.tmps[t]? =some v'/\eH E v v':=by
 by_cases h:∃i q,i<j/\ops[i]? =some q/\q.dst=some t
 . obtain⟨i,q,h1,C,h3⟩:=h;have hu:=hr.use i j q o t C ho S h3 ht;rw[aF h1]at hu;have hi:=su hr Tr.closed ho hd hu;have:=hf.new i q t h1 C h3;rw[this]at hv;cases hv;exact Tr.f1 i q t hi C h3
 . have qn:=hf.old t fun i q hi hq hd=>h ⟨i,q,hi,hq,hd⟩;rw[qn]at hv;refine Tr.f2 t v hv fun i q hi hq L9=>?_;have jD:i≠j:=by intro e;subst e;rw[hj]at hi;cases hi
   have hu:=hr.use i j q o t hq ho jD L9 ht;split at hu
   . rename_i fj;exact h ⟨i,q,fj,hq,L9⟩
   . have:=Tr.iM hr hi hu;rw[hj]at this;cases this
theorem Inv.uS(hr:lP ops n0){dM:af}{dF:Nat->Bool}{ms iW:Nat}{E:Env}{a:Act}{w:World}(Tr:Inv ops N n0 iy h0 lH val eA dM E0 w0 yA dF ms iW E a w)
  {j:Nat} {o:Oper} (ho:ops[j]? =some o) (hj:dF j=false) (hd:∀e∈o.after,Region.binds .any e=true->dF e.on=true) {F:I V} (hf:zW ops lH val j F):∀x∈o.op.operands,nv E F a.eval x:=by
 intro x K v hv;cases x with
 |tmp t=>
  have ht:t∈uT ops o:=by
   unfold uT;refine List.mem_append_left _ (List.mem_filterMap.2 ⟨.tmp t,by simpa using K,rfl⟩)
  obtain⟨v',h1,C⟩:=Tr.use hr ho hj hd hf ht hv;simp only[Act.eval,bO,h1];exact C
 |const c=>exact zN hv
 |func f=>simp only[jn,aq]at hv;subst hv;exact⟨_,[],[],rfl,rfl,rfl,rfl⟩
 |global g=>exact HR Tr.CH.good.lG hv
theorem Inv.wanted(hr:lP ops n0){dM:af}{dF:Nat->Bool}{ms iW:Nat}{E:Env}{a:Act}{w:World}(Tr:Inv ops N n0 iy h0 lH val eA dM E0 w0 yA dF ms iW E a w)
  {j:Nat} {o:Oper} (ho:ops[j]? =some o) (hj:dF j=false) (hd:∀e∈o.after,Region.binds .any e=true->dF e.on=true) {F:I V} (hf:zW ops lH val j F) {b:Bool} (e:gq ops o F=some b):
  Region.wanted o (yielded ops a.tmps)=b:=by
 refine xl (E:=E) (fun g FG q t hg hq hdq v hv=>?_) e;have ht:t∈uT ops o:=by
  unfold uT;refine List.mem_append_right _ ?_;simp only[hg,hq,hdq];simp
 exact Tr.use hr ho hj hd hf ht hv
theorem Inv.frame(hr:lP ops n0){dM:af}{dF:Nat->Bool}{ms iW:Nat}{E E':Env}{a:Act}{w:World}(Tr:Inv ops N n0 iy h0 lH val eA dM E0 w0 yA dF ms iW E a w)
  {j:Nat} {o:Oper} (ho:ops[j]? =some o) (kZ:E.le E') {v':Value} (hv:eH E' (val j) v'):
  (∀(k:Nat) (q:Oper) (t:Nat),(dF k||decide (k=j))=true->ops[k]? =some q->q.dst=some t->∃v2,(a.put o.dst v').tmps[t]? =some v2/\eH E' (val k) v2)/\
  (∀(t:Nat) (v:V),lH.get t=some v->(∀(k:Nat) (q:Oper),(dF k||decide (k=j))=true->ops[k]? =some q->q.dst≠some t)->∃v2,(a.put o.dst v').tmps[t]? =some v2/\eH E' v v2):=by
 have F6:nw a.tmps.size o.dst:=by rw[Tr.size];exact hr.dst j o ho
 refine⟨fun k q t hk hq ht=>?_,fun t v PB ht=>?_⟩
 . by_cases c:k=j
   . subst c;rw[ho]at hq;cases hq;have:=F6 t ht;exact⟨v',by simp[Act.put,ht,this],hv⟩
   . have rB:dF k=true:=by simpa[c]using hk
     obtain⟨v2,h1,C⟩:=Tr.f1 k q t rB hq ht;refine⟨v2,?_,jU kZ _ _ C⟩;cases hd:o.dst with
     |none=>exact h1
     |some u=>
      have jD:u≠t:=by intro e;subst e;exact c (hr.one k j q o u hq ho ht hd)
      simp[Act.put,jD,h1]
 . obtain⟨v2,h1,C⟩:=Tr.f2 t v PB fun k q hk hq=>ht k q (by simp[hk]) hq;refine⟨v2,?_,jU kZ _ _ C⟩;cases hd:o.dst with
   |none=>exact h1
   |some u=>
    have jD:u≠t:=by intro e;subst e;exact ht j o (by simp) ho hd
    simp[Act.put,jD,h1]
end
end Go.Eng
