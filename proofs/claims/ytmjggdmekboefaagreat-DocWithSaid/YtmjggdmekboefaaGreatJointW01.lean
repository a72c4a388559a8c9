/- Lemmas of the engine. No conditions. -/
import Derived.Test.YtmjggdmekboefaaGreatJointW00
import Derived.Lib.UnsafeStr
import Derived.RangeFuncSeq
import Derived.TacticsIn
set_option linter.unusedVariables false
set_option linter.unusedSimpArgs false
set_option linter.unusedSectionVars false
namespace Go.Eng
open Go
section
variable{P:Program}{E:Env}{h:I es}{n:Nat}{w:World}
theorem Cd(s:aa):eC E (BW s) (s.map fun b=>Value.int .u8 b.toNat):=by
 refine jM (by simp[BW]) fun i v q=>?_;simp only[BW,bC,cL]at q ⊢;obtain⟨b,q1,rfl⟩:=q;exact⟨_,⟨b,q1,rfl⟩,rfl⟩
theorem Ce(s:aa):(pL s).map (V.int .u8)=BW s:=by simp[pL,BW]
theorem Cf{ks:List Int}{o len:Nat}{vs:List Value}(r:eC E (((ks.map (V.int .u8)).drop o).take len) vs):vs=((ks.drop o).take len).map (Value.int .u8):=by
 rw[<- List.map_drop,<- dm]at r;revert r;generalize (ks.drop o).take len=l;intro r
 induction l generalizing vs with
 |nil=>exact r
 |cons x l ih=>
  obtain⟨y,ys,r0,rs,rfl⟩:=r;simp only[eB]at r0;subst r0;rw[ih rs];rfl
theorem JQ{m b s:Nat}{t:aa}(g:Good E h w)(hi:E.ι m=some (b,s))(e:uA (h.get m)=some t):∃c el fz xs,w.heap[b]? =some (.cells c el fz)/\s=0/\nG xs=t/\∀(j:Nat) (x:Int),xs[j]? =some x->c[j]? =some (.int .u8 x):=by
 unfold uA at e;split at e
 . rename_i el An t' K;cases e;obtain⟨b',R,Ba,c,fz,xs,h1,C,_,_,h3,h4⟩:=g.rel m _ K;rw[hi]at Ba;cases Ba;exact⟨c,el,fz,xs,h1,C,h3,h4⟩
 . cases e
theorem MQ{m b s:Nat}{ks:List Int}(g:Good E h w)(hi:E.ι m=some (b,s))(e:Ao (h.get m)=some ks):∃c el fz,w.heap[b]? =some (.cells c el fz)/\l8 E s (ks.map (.int .u8)) c:=by
 unfold Ao at e;split at e
 . rename_i ks' K;cases e;obtain⟨b',R,Ba,c,el,fz,h1,_,_,C⟩:=g.rel m _ K;rw[hi]at Ba;cases Ba;exact⟨c,el,fz,h1,C⟩
 . rename_i ks' K;cases e;obtain⟨b',R,Ba,c,el,fz,h1,_,C⟩:=g.rel m _ K;rw[hi]at Ba;cases Ba;exact⟨c,el,fz,h1,nK.2 C⟩
 . cases e
theorem Cg:∀(bs:ag) (s:aa) (bs':List Value),qz bs=some s->eC E bs bs'->
  ∃ns:List Int,bs'=ns.map (Value.int .u8)/\s=ns.map fun n=>UInt8.ofNat n.toNat
 | [],s,bs',e,r=>by
   simp only[qz,aq]at e;subst e;simp only[eC]at r;subst r;exact⟨[],rfl,rfl⟩
 |x::xs,s,bs',e,r=>by
  obtain⟨y,ys,rx,rs,rfl⟩:=r;cases x with
  |int k m=>
   cases k<;>simp only[qz]at e<;>first|(cases e;done)|skip
   cases J:qz xs with
   |none=>simp[J]at e
   |some t=>
    simp only[J,aq]at e;subst e;simp only[eB]at rx;subst rx;obtain⟨ns,h1,C⟩:=Cg xs t ys J rs;exact⟨m::ns,by simp[h1],by simp[C]⟩
  |_=>simp[qz]at e
theorem sX:∀(ns:List Int) (r:ByteArray),ns.foldl (fun r n=>r.push (UInt8.ofNat n.toNat)) r=⟨r.data++(ns.map fun n=>UInt8.ofNat n.toNat).toArray⟩
 | [],r=>by simp
 |n::ns,r=>by
  simp only[List.foldl_cons];rw[sX ns];simp[ByteArray.push]
theorem JR{Lu dst:TypeId}{x:V}{x':Value}{r:s'}(g:Good E h w)(hn:E.ι n=none)(rx:eB E x x')(e:oS P Lu dst x h n=some r):
  jX P E h n w (do pure (.value (<- convert Lu dst x'))) r:=by
 unfold oS at e;split at e
 . rename_i d k k' m h1 C;obtain rfl:=eU e;simp only[eB]at rx;subst rx;refine eL g (v':=.int k (k.wrap m)) ?_ rfl;simp[convert,eo h1,eo C,Conv.intToInt]
 . rename_i d s h1 C;obtain rfl:=eU e;simp only[eB]at rx;subst rx;refine eL g (v':=.string ⟨s.toArray⟩) ?_ rfl;simp[convert,eo h1,eo C]
 . rename_i d k m h1 C;obtain rfl:=eU e;simp only[eB]at rx;subst rx;refine eL g (v':=.string (Utf8.encode m)) ?_ (by show _=_;unfold iw;simp);simp[convert,eo h1,eo C,Conv.intToString]
 . rename_i el s h1 C;simp only[eB]at rx;subst rx;split at e
   . rename_i hu;cases ho:newObj h n (.own .u8 (pL s))with
     |none=>simp[ho]at e
     |some p=>
      obtain⟨h',n'⟩:=p;simp only[ho,aq]at e;subst e;have mP:(⟨s.toArray⟩:ByteArray).size=s.length:=by show s.toArray.size=_;simp
      have gx:=run_bytes_of_string w Lu dst el ⟨s.toArray⟩ h1 C hu;rw[mP]at gx;have oq:s.length<=grownCap w s.length 0 el:=by simp only[grownCap,Question.cut];omega
      have N:(bytesRow ⟨s.toArray⟩ (grownCap w s.length 0 el)).size=grownCap w s.length 0 el:=by simp[bytesRow,mP];omega
      refine Hv (r:=.is .u8 (pL s)) (w1:=w.drew) (c:=bytesRow ⟨s.toArray⟩ (grownCap w s.length 0 el)) (el:=el) (fz:=((bytesRow ⟨s.toArray⟩ (grownCap w s.length 0 el)).size,(bytesRow ⟨s.toArray⟩ (grownCap w s.length 0 el)).size+1)) (v':=.slice (some ⟨w.heap.size,0,none⟩) s.length (grownCap w s.length 0 el)) g hn trivial ho rfl rfl rfl rfl ?_ ?_ ?_ ?_
      . intro i hi q;simp at q;omega
      . simp only[Sem.run_bind,gx,Result.andThen_ok,Sem.run_pure]
      . intro i v q;obtain⟨v',q1,q2⟩:=gW (Cd (E:=E) s) i v (by rw[<- Ce];exact q);refine⟨v',?_,q2⟩;simp only[bytesRow,bB];rw[cJ (by simpa using (aO.1 q1).1)];simpa using q1
      . refine⟨w.heap.size,0,0,grownCap w s.length 0 el,Env.ga,fun _=>rfl,aK _,oq,?_,rfl⟩;simp[Env.put,N]
   . cases e
 . rename_i el f cs h1 C;have J:∃a jQ,x'= .slice a 0 jQ:=by obtain⟨a,jQ,_,J,_⟩:=rx.1;exact⟨a,jQ,J⟩
   obtain⟨a,jQ,rfl⟩:=J;split at e
   . rename_i hu;obtain rfl:=eU e;refine eL g (v':=.string .empty) ?_ rfl;cases a<;>simp[convert,eo h1,eo C,eo hu,Conv.bytesToString,loadCells,loadCellsFrom]
   . cases e
 . rename_i el _ _ _ h1 C;obtain⟨_,_,rfl⟩:=rx;split at e
   . rename_i hu;obtain rfl:=eU e;refine eL g (v':=.string .empty) ?_ rfl;simp[convert,eo h1,eo C,eo hu,Conv.bytesToString]
   . cases e
 . rename_i el m o len jQ kY h1 C;split at e
   . rename_i hu;split at e
     . rename_i W9;subst W9;obtain⟨b,sh,o',gP,hi,c1,c2,c3,c4,rfl⟩:=rx;split at e
       . rename_i s0 K;split at e
         . rename_i mg;obtain rfl:=eU e;obtain⟨c,el',fz,xs,rR,hsh,Ch,En⟩:=JQ g hi K;subst hsh;refine eL g (v':=.string ⟨((s0.drop o).take len).toArray⟩) ?_ rfl;rcases cH len with DD|Xa
           . subst DD;simp[convert,eo h1,eo C,eo hu,Conv.bytesToString,loadCells,loadCellsFrom];rfl
           . have mg:o+len<=s0.length:=mg.resolve_left S;have JS:xs.length=s0.length:=by rw[<- Ch];simp[nG]
             have Fv:o'=0+o:=c1 S;subst Fv;have ab0:l8 E 0 (xs.map (.int .u8)) c:=nK.2 (by simpa using En);have Y:=nO ab0 (k:=o+len) S (by simp;omega);have VE:=run_loadCells (P:=P) (o:=0+o) (n:=len) rR S;rw[Cf (nP ab0 (by simp;omega) S)]at VE;rw[Sem.run_bind,run_convert_bytes_string w Lu dst el _ len gP h1 hu C,run_bytesToString w _ len gP _ VE,sX];simp[<- Ch,nG,dm,List.map_drop]
         . cases e
       . split at e
         . rename_i ks K;split at e
           . rename_i mg;obtain rfl:=eU e;obtain⟨c,el',fz,rR,En⟩:=MQ g hi K;refine eL g (v':=.string ⟨(nG ((ks.drop o).take len)).toArray⟩) ?_ rfl;rcases cH len with DD|Xa
             . subst DD;simp[convert,eo h1,eo C,eo hu,Conv.bytesToString,loadCells,loadCellsFrom,nG];rfl
             . have mg:o+len<=ks.length:=mg.resolve_left S;have Fv:o'=sh+o:=c1 S;subst Fv;have Y:=nO En (k:=o+len) S (by simpa using mg);have VE:=run_loadCells (P:=P) (o:=sh+o) (n:=len) rR S;rw[Cf (nP En (by simpa using mg) S)]at VE;rw[Sem.run_bind,run_convert_bytes_string w Lu dst el _ len gP h1 hu C,run_bytesToString w _ len gP _ VE,sX];simp[nG]
           . cases e
         . split at e
           . obtain rfl:=eU e;refine eL g (v':=.string .empty) ?_ rfl;simp[convert,eo h1,eo C,eo hu,Conv.bytesToString,loadCells,loadCellsFrom]
           . rename_i DD;split at e
             . rename_i cs K;cases N:cut cs o len with
               |none=>simp[N]at e
               |some bs=>
                simp only[N]at e;cases ht:qz bs with
                |none=>simp[ht]at e
                |some s=>
                 simp only[ht,aq]at e;subst e;obtain⟨mg,rfl⟩:=zq N;have Xa:0<len:=by
                  cases len with
                  |zero=>exact absurd rfl DD
                  |succ _=>omega
                 have Fv:o'=sh+o:=c1 S;subst Fv;obtain⟨b',sh',Ba,c,el',fz,rR,_,_,En⟩:=g.rel m _ K;rw[hi]at Ba;cases Ba;have Y:=nO En (k:=o+len) S mg;have VE:=run_loadCells (P:=P) (o:=sh+o) (n:=len) rR S;obtain⟨ns,n1,n2⟩:=Cg _ s _ ht (nP En mg S);rw[n1]at VE;refine eL g (v':=.string ⟨s.toArray⟩) ?_ rfl;rw[Sem.run_bind,run_convert_bytes_string w Lu dst el _ len gP h1 hu C,run_bytesToString w _ len gP ns VE,sX,<- n2];simp
             . cases e
     . cases e
   . cases e
 . cases e
theorem Ep{t:TypeId}{i:TypeInfo}{z:V}(hi:P.info? t=some i)(hz:zeroOf P t=some z):∃z',i.zero=some z'/\(zeroValue t).run P w= .ok z' w/\eB E z z':=by
 obtain⟨z',h1,C,i',h3,h4⟩:=lC (P:=P) (w:=w) E hz;rw[hi]at h3;cases h3;exact⟨z',h4,h1,C⟩
theorem Hz(k:IntKind)(ks:List Int):∀n,(SP ks n).map (V.int k)=iA (ks.map (V.int k)) n
 |0=>rfl
 |n+1=>by rw[SP,iA,bM,Hz k ks n]
theorem OX{z z':ag}(h:wk z z'):∀n,wk (iA z n) (iA z' n)
 |0=>je _
 |n+1=>zk h (OX h n)
theorem HA(ds:ai):∀n,D.fU (Ff ds n)=iA (D.fU ds) n
 |0=>rfl
 |n+1=>by rw[Ff,iA,<- HA ds n,D.gq,D.gq,D.gq,bM]
theorem Ly{ds:ai}(h:∀x∈ds,x.scalar=true):∀n,∀x∈Ff ds n,x.scalar=true
 |0,x,J=>by simp[Ff]at J
 |n+1,x,J=>(bf.1 J).elim (h x) (Ly h n x)
theorem Ci(z:ag)(n:Nat):wk (iA z n) (vm z n).kH/\(vm z n).sc:=by
 have key:∀z:ag,wk (iA z n) (match iJ z with|some ds=>Row.ds (Ff ds n)|none=>Row.vs (iA z n)).kH/\(match iJ z with|some ds=>Row.ds (Ff ds n)|none=>Row.vs (iA z n)).sc:=by
  intro z;split
  . rename_i ds h;refine⟨?_,Ly (nM h) n⟩;simp only[Row.kH,HA];exact OX (xN h) n
  . exact⟨je _,trivial⟩
 unfold vm;split
 . rename_i k x r;split
   . rename_i ks h;refine⟨?_,trivial⟩;rw[rK h];simp only[Row.kH,Hz];exact je _
   . exact key _
 . exact key _
theorem Fw{t:TypeId}{l c:V}{l' c':Value}{r:s'}(g:Good E h w)(hn:E.ι n=none)(rl:eB E l l')(rc:eB E c c')(e:nH P t l c h n=some r):
  jX P E h n w (do pure (.value (<- Instr.makeSlice t l' c'))) r:=by
 unfold nH at e;split at e
 . rename_i el k l k' c he;simp only[eB]at rl rc;subst rl;subst rc;split at e
   . rename_i i z hi hz;simp only at e;split at e
     . rename_i hq;obtain⟨q1,q2,q3,q4,q5⟩:=hq;cases ho:newObj h n (vm z.cells (IntKind.i64.wrap c).toNat).Ei with
       |none=>simp[ho]at e
       |some p=>
        obtain⟨h',n'⟩:=p;simp only[ho,aq]at e;subst e;obtain⟨z',DF,DG,Fx⟩:=Ep (P:=P) (E:=E) (w:=w) hi hz;have hzc:=iQ Fx;have OR:=Cb hzc S (IntKind.i64.wrap c).toNat;rw[q2]at OR;generalize hC:(IntKind.i64.wrap c)=h2 at *;generalize hL:(IntKind.i64.wrap l)=iW at *;have hu:=Hy he;have mP:(sizeOf el).run P w= .ok i.size w:=by simp[sizeOf,typeInfo,hi]
        refine sU (w1:=w) (c:=(Array.range (h2.toNat*i.size)).map (z'.cells[·%z'.cells.size]!)) (el:=el) (v':=.slice (some ⟨w.heap.size,0,none⟩) iW.toNat h2.toNat) g hn (Ci _ _).2 ho rfl rfl rfl rfl ?_ (by refine xO (Ci _ _).1 ?_;exact oc OR) ?_
        . have SY:¬((i.bytes:Int)*h2>2^48):=by omega
          simp only[Instr.makeSlice,Sem.run_bind,eo hu,Result.andThen_ok,asInt,asIntOf,Sem.run_pure,typeInfo,run_program,hi,hC,hL];rw[aA (by simp;omega)];simp only[Sem.run_bind,run_askRoom,Result.andThen_ok,mP,Sem.run_ite,Sem.run_pure,DG];by_cases h0:h2.toNat*i.size=0
          . rw[aD h0];have e0:∀f:Nat->Value,Array.map f (Array.range 0)=#[]:=fun f=>by apply Array.ext' ;simp
            simp[h0,newRow,e0]
          . rw[aA h0];simp[newRow]
        . refine⟨w.heap.size,0,0,h2.toNat,Env.ga,fun _=>rfl,S,aK _,?_,rfl⟩;simp[Env.put]
     . cases e
   . cases e
 . cases e
theorem HB{size k:Nat}{x:V}{new:Row}{x':Value}(g:Good E h w)(r:eB E x x')(e:jE h size x=some (k,new)):
  (∀w1:World,(Builtin.lenOf x').run P w1= .ok k w1)/\new.kH.length=k*size/\new.sc/\
   ∃kC:Array Value,(∀w1:World,w1.heap=w.heap->(Builtin.firstCells size k x').run P w1= .ok kC w1)/\eC E new.kH kC.toList:=by
 unfold jE at e;split at e
 . rename_i len _ _;split at e
   . rename_i hl;obtain⟨rfl,rfl⟩:=gl e;obtain⟨_,_,rfl⟩:=r;exact⟨fun _=>rfl,by simp[Row.kH],trivial,#[],fun _ _=>rfl,by simp[eC,Row.kH]⟩
   . cases e
 . rename_i m o len jQ kY;split at e
   . rename_i W9;subst W9;obtain⟨b,sh,o',gP,hi,c1,c2,c3,c4,rfl⟩:=r;split at e
     . obtain⟨rfl,rfl⟩:=gl e;refine⟨fun _=>rfl,by simp[Row.kH],trivial,#[],fun _ _=>?_,by simp[eC,Row.kH]⟩;simp[Builtin.firstCells,loadCells,loadCellsFrom]
     . rename_i DD;split at e
       . rename_i ob K;split at e
         . rename_i rw0 Cj;cases tQ:rw0.cut o (len*kY)with
           |none=>simp[tQ]at e
           |some x=>
            simp only[tQ,aq,aB]at e;obtain⟨rfl,rfl⟩:=e;obtain⟨mg,J⟩:=zq (Row.Fl tQ);have Xa:0<len:=by
             cases len with
             |zero=>exact absurd rfl DD
             |succ _=>omega
            have Fv:o'=sh+o:=c1 S;subst Fv;obtain⟨b',sh',Ba,q0⟩:=g.rel m _ K;obtain⟨⟨c,el',fz,rR,mP,En⟩,JG⟩:=MN Cj q0;rw[hi]at Ba;cases Ba;have zv:sh+o+len*kY<=c.size:=by
             have:len*kY<=gP*kY:=cM _ S;omega
            refine⟨fun _=>rfl,by rw[J];simp;omega,Row.OI tQ JG,((c.toList.drop (sh+o)).take (len*kY)).toArray,fun w1 JJ=>?_,by rw[J];simpa using nP En mg zv⟩;simp only[Builtin.firstCells];exact run_loadCells (by rw[JJ];exact rR) zv
         . cases e
       . cases e
   . cases e
 . rename_i s;split at e
   . rename_i oV;obtain⟨rfl,rfl⟩:=gl e;simp only[eB]at r;subst r;have mP:(⟨s.toArray⟩:ByteArray).size=s.length:=by show s.toArray.size=_;simp
     refine⟨fun _=>?_,by simp[pL,oV,Row.kH],trivial,(s.map fun b=>Value.int .u8 b.toNat).toArray,fun w1 _=>?_,by simp only[Row.kH,Ce];exact Cd s⟩
     . simp[Builtin.lenOf,mP]
     . simp only[Builtin.firstCells,Sem.run_pure];congr 1;apply Array.ext';simp
   . cases e
 . rename_i f len cs;split at e
   . rename_i hl;obtain⟨rfl,rfl⟩:=gl e;obtain⟨⟨a,jQ,vs,rfl,oq,hd,h0,uL⟩,_⟩:=r;have hvl:=o6 hd;refine⟨fun _=>rfl,by simp only[Row.kH,D.gq,bG];exact hl,jk hd,vs.toArray,fun w1 JJ=>?_,by simpa[Row.kH]using rJ _ _ hd⟩;rcases cH len with hz|hp
     . have:=h0 hz;subst this;have hv:vs=[]:=by simpa using hvl
       subst hv;subst hz;cases a<;>simp[Builtin.firstCells,loadCells,loadCellsFrom]
     . obtain⟨b,o,c,rfl,DQ,N⟩:=uL hp;obtain⟨⟨el,fz,rR⟩,_⟩:=g.jo b c DQ;have ab1:(c.toList.drop o).take (len*size)=vs:=by
        apply List.ext_getElem?;intro j;rw[bW,bX];by_cases hj:j<len*size
        . rw[aD hj];have SZ:j<vs.length:=by omega
          have:=N j _ (au SZ);rw[au SZ,<- this];simp
        . rw[aA hj,ct S]
       simp only[Builtin.firstCells];rcases cH (len*size)with q|q
       . have hn:vs=[]:=by simpa[hl,q]using hvl
         subst hn;rw[q];rfl
       . have zv:o+len*size<=c.size:=by
          have:((c.toList.drop o).take (len*size)).length=len*size:=by rw[ab1];omega
          simp at this;omega
         rw[run_loadCells (by rw[JJ];exact rR) zv,ab1]
   . cases e
 . cases e
end
section
variable{P:Program}{E:Env}{h:I es}{n:Nat}{w:World}
theorem nc(z:Array Value)(k:Nat):(Builtin.zeroCells z k).size=k*z.size:=by simp[Builtin.zeroCells]
theorem Ck{ML size bytes:Nat}(q:fJ ML size bytes=true):ML*bytes<=281474976710/\ML*size<=281474976710:=by
 simpa[fJ]using q
theorem tR{b o:Nat}{el:TypeId}{fz:Nat×Nat}:∀(vs:List Value) (i:Nat) (w:World) (c:Array Value),w.heap[b]? =some (.cells c el fz)->
  (∀j,o+i<=j->j<o+i+vs.length->¬(fz.1<=j/\j<fz.2))->(∀v∈vs,v.oneCell'=true)->o+i+vs.length<=c.size->
  ∃w',(storeCells ⟨b,o,none⟩ vs i).run P w= .ok () w'/\w'.heap[b]? =some (.cells (putCells c (o+i) vs) el fz)/\w'.heap.size=w.heap.size/\w'.tape=w.tape/\w'.os=w.os/\w'.output=w.output/\
   ∀x,x≠b->w'.heap[x]? =w.heap[x]?
 | [],i,w,c,h,_,_,hn=>by
   refine⟨w,rfl,?_,rfl,rfl,rfl,rfl,fun _ _=>rfl⟩;rw[h];have:putCells c (o+i) []=c:=by simp[putCells]
   rw[this]
 |v::vs,i,w,c,h,hf,hv,hn=>by
  simp only[aR]at hn hf;have eY:o+i<c.size:=by omega
  have hnf:w.frozen? ⟨b,o+i,none⟩=false:=by
   have:=hf (o+i) (aK _) S;simp only[World.frozen?,h];simpa using this
  let w1:=w.setCell ⟨b,o+i,none⟩ v
  have JJ:w1.heap[b]? =some (.cells (c.setIfInBounds (o+i) v) el fz):=by
   simp[w1,World.setCell,Array.getElem?_modify,h]
  obtain⟨w',e1,e2,e3,e4,e5,e6,e7⟩:=tR (o:=o) vs (i+1) w1 (c.setIfInBounds (o+i) v) JJ (fun j h1 C=>hf j S S) (fun v WU=>hv v (by simp[WU])) (by simp only[Array.size_setIfInBounds];omega);refine⟨w',?_,?_,by rw[e3];simp[w1],by rw[e4];rfl,by rw[e5];rfl,by rw[e6];rfl,?_⟩
  . simp only[storeCells,Sem.run_bind];rw[run_store P w _ v .plain (hv v (by simp)),Addr.ji,mX h,aY eY];simp only[hnf,aM,cA,Result.andThen_ok];exact e1
  . rw[e2];have:o+(i+1)=o+i+1:=by omega
    rw[this,qW S]
  . intro x J;rw[e7 x J];simp[w1,World.setCell,Array.getElem?_modify,Ne.symm J]
theorem xX:∀{l:ag} {t:aa},uD l=some t->∃xs:List Int,l=xs.map (.int .u8)/\nG xs=t
 | [],t,h=>by simp only[uD,aq]at h;subst h;exact⟨[],rfl,rfl⟩
 |v::r,t,h=>by
  unfold uD at h;split at h
  . rename_i q;cases q
  . rename_i x r' q;cases q;split at h
    . rename_i l hl;obtain rfl:=eU h;obtain⟨xs,h1,C⟩:=xX hl;exact⟨x::xs,by rw[h1];rfl,by rw[<- C];rfl⟩
    . cases h
  . cases h
theorem Fy{r:Row}{t:aa}(h:uE r=some t):∃xs:List Int,r.kH=xs.map (.int .u8)/\nG xs=t:=by
 unfold uE at h;split at h
 . rename_i ks;cases h;exact⟨ks,rfl,rfl⟩
 . exact xX h
 . cases h
theorem MR{xs:List Int}{l:List Value}(r:eC E (xs.map (.int .u8)) l):l=xs.map (.int .u8):=by
 induction xs generalizing l with
 |nil=>exact r
 |cons x xs ih=>
  obtain⟨y,ys,r0,rs,rfl⟩:=r;simp only[eB]at r0;subst r0;rw[ih rs];rfl
theorem Av:∀t:aa,nG (pL t)=t
 | []=>rfl
 |b::r=>by
  have ih:=Av r;simp only[nG,pL,bQ,List.map_map]at ih ⊢;rw[ih];simp
theorem HC(xs:List Int):(nG xs).length=xs.length:=by simp[nG]
section
variable{st xt el ty:TypeId}{xd:TypeDesc}{i:TypeInfo}
theorem lJ{z':Value}(hu:P.underlying st=some (.slice el))(J:P.underlying xt=some xd)(MS:(∃y,xd= .slice y)\/xd= .string)
  (hi:P.info? el=some i) (hz:i.zero=some z') {base:Option Addr} {sLen sCap k:Nat} {x':Value} {old new:Array Value}
  (jl:∀w1:World,(Builtin.lenOf x').run P w1= .ok k w1) (pW:∀w1:World,w1.heap=w.heap->(Builtin.firstCells i.size sLen (.slice base sLen sCap)).run P w1= .ok old w1)
  (qV:∀w1:World,w1.heap=w.heap->(Builtin.firstCells i.size k x').run P w1= .ok new w1)
  (oq:sCap<sLen+k) (Y:0<i.bytes) (qD:(sLen+k)*i.bytes<=281474976710):
  (Builtin.append_ #[st,xt] ty #[.slice base sLen sCap,x']).run P w=
   .ok (.slice (some ⟨w.heap.size,0,none⟩) (sLen+k) (grownCap w (sLen+k) sCap el))
    (w.drew.alloc (.cells (old++new++Builtin.zeroCells z'.cells (grownCap w (sLen+k) sCap el-(sLen+k))) el)):=by
 have awf:Builtin.nextslicecap (sLen+k) sCap*i.bytes<=281474976710656:=growslice_fits oq S;have Aw:¬(sLen+k<=sCap):=by omega
 have VF:¬(281474976710656<Builtin.nextslicecap (sLen+k) sCap*i.bytes):=by omega
 have hb0:¬(i.bytes=0):=by omega
 have ho:=pW w.drew rfl;have hn:=qV w.drew rfl;rcases MS with⟨y,rfl⟩|rfl
 . simp[Builtin.append_,eo hu,eo J,sizeOf,typeInfo,zeroValue,hi,hz,jl,Aw,VF,hb0,Question.forced,newRow,grownCap,ho,hn]
 . simp[Builtin.append_,eo hu,eo J,sizeOf,typeInfo,zeroValue,hi,hz,jl,Aw,VF,hb0,Question.forced,newRow,grownCap,ho,hn]
theorem run_append_room(hu:P.underlying st=some (.slice el))(J:P.underlying xt=some xd)(MS:(∃y,xd= .slice y)\/xd= .string)
  (hi:P.info? el=some i) {base:Option Addr} {sLen sCap k:Nat} {x':Value} {new:Array Value}
  (jl:∀w1:World,(Builtin.lenOf x').run P w1= .ok k w1) (qV:(Builtin.firstCells i.size k x').run P w= .ok new w) (oq:sLen+k<=sCap):
  (Builtin.append_ #[st,xt] ty #[.slice base sLen sCap,x']).run P w=
   ((match base with|some a=>storeCells (a.add (sLen*i.size)) new.toList|none=>pure ()).run P w).andThen fun _ w'=>.ok (.slice base (sLen+k) sCap) w':=by
 rcases MS with⟨y,rfl⟩|rfl
 . cases base<;>simp[Builtin.append_,eo hu,eo J,sizeOf,typeInfo,hi,jl,oq,qV]
 . cases base<;>simp[Builtin.append_,eo hu,eo J,sizeOf,typeInfo,hi,jl,oq,qV]
end
theorem MT{eP:Array TypeId}{ty:TypeId}{args:ag}{dQ:List Value}{r:s'}(g:Good E h w)(hn:E.ι n=none)(ra:eC E args dQ)
  (e:xK P eP args h n=some r) (ha:eP.size=2):jX P E h n w (do pure (.value (<- Builtin.append_ eP ty dQ.toArray))) r:=by
 unfold xK at e;split at e
 . rename_i st xt s x h1 C;obtain⟨R,_,rs,⟨x',_,rx,lX,rfl⟩,rfl⟩:=ra;simp only[eC]at lX;subst lX;have ny:eP=#[st,xt]:=by
    apply Array.ext
    . simpa using ha
    . intro i q1 q2;have:i=0\/i=1:=by simp at q2;omega
      rcases this with rfl|rfl
      . rw[aY q1]at h1;simpa using h1
      . rw[aY q1]at C;simpa using C
   subst ny;split at e
   . rename_i el xd he J;split at e
     . rename_i i z Xb hi hz;have MS:(∃y,xd= .slice y)\/xd= .string:=by
        unfold JC at Xb;split at Xb
        . exact .inl ⟨_,rfl⟩
        . exact .inr rfl
        . cases Xb
       have hu:=Hy he;split at e
       . rename_i hq;obtain⟨q1,q2,q3⟩:=hq;obtain⟨z',DF,DG,Fx⟩:=Ep (P:=P) (E:=E) (w:=w) hi hz;have hzs:z'.cells.size=i.size:=by have:=fo (iQ Fx);simp at this;omega
         split at e
         . rename_i k new ht;obtain⟨t1,t2,tsc,kC,t3,t4⟩:=HB g rx ht;have VC:kC.size=k*i.size:=by have:=fo t4;simp at this;omega
           split at e
           . rename_i aiO;have JG:=Row.OJ aiO tsc;split at e
             ·
              obtain⟨_,tQ,rfl⟩:=rs;split at e
              . obtain rfl:=eU e;refine eL g (v':=.slice none 0 0) ?_ ⟨rfl,rfl,rfl⟩;rw[Sem.run_bind,run_append_room hu J MS hi t1 (t3 w rfl) S];rfl
              . rename_i OM;have U:0<k:=by
                 cases k with
                 |zero=>exact absurd rfl OM
                 |succ _=>omega
                split at e
                . rename_i qD;cases ho:newObj h n (BZ el x new)with
                  |none=>simp[ho]at e
                  |some p=>
                   obtain⟨h',n'⟩:=p;simp only[ho,aq]at e;subst e;obtain⟨r1,r2⟩:=Ck qD;have gx:=lJ (w:=w) (ty:=ty) hu J MS hi DF (base:=none) (sLen:=0) (sCap:=0) (x':=x') (old:=#[]) t1 (fun _ _=>rfl) t3 S q2 (by simpa using r1);simp only[bB]at gx;have oq:k<=grownCap w k 0 el:=by simp only[grownCap,Question.cut];omega
                   have mP:(#[]++kC++Builtin.zeroCells z'.cells (grownCap w k 0 el-k)).size=grownCap w k 0 el*i.size:=by
                    simp only[Array.size_append,nc,hzs,VC,Array.size_empty];rw[bB,<- dh];congr 1;omega
                   have En:l8 E 0 new.kH (#[]++kC++Builtin.zeroCells z'.cells (grownCap w k 0 el-k)):=by
                    intro j v q;obtain⟨v',p1,p2⟩:=gW t4 j v q;refine⟨v',?_,p2⟩;have hj:j<kC.size:=by have:=(aO.1 p1).1;simpa using this
                    rw[cJ (by simp;omega)];simpa using p1
                   have hvs:eB (E.put n w.heap.size 0 (#[]++kC++Builtin.zeroCells z'.cells (grownCap w k 0 el-k)).size) (.eZ (some (n,0)) k k i.size) (.slice (some ⟨w.heap.size,0,none⟩) k (grownCap w k 0 el)):=by
                    refine⟨w.heap.size,0,0,grownCap w k 0 el,Env.ga,fun _=>rfl,aK _,oq,?_,rfl⟩;rw[mP];simp[Env.put]
                   have VG:(do pure (.value (<- Builtin.append_ #[st,xt] ty #[.slice none 0 0,x'])):Sem Next).run P w= .ok (.value (.slice (some ⟨w.heap.size,0,none⟩) k (grownCap w k 0 el))) (w.drew.alloc (.cells (#[]++kC++Builtin.zeroCells z'.cells (grownCap w k 0 el-k)) el)):=by
                    simp only[Sem.run_bind,gx,Result.andThen_ok,Sem.run_pure]
                   unfold BZ at ho;split at ho
                   . rename_i t;obtain⟨gX,rfl,rfl⟩:=kS ho;simp only[jE]at ht;split at ht
                     case isFalse=>cases ht
                     rename_i oV;obtain⟨rfl,rfl⟩:=gl ht;have nQ:=nK.1 En;have ua:=jf.alloc (n:=n) (ob:=.cells (#[]++kC++Builtin.zeroCells z'.cells (grownCap w t.length 0 el-t.length)) el) (o:=.vM el false t) (w:=w.drew) (g.same rfl) hn gX (by
                      refine⟨_,_,pL t,heap_alloc_new,rfl,by simp[Env.put,ki],⟨.inl rfl,fun _=>rfl⟩,Av t,fun j x J=>?_⟩;have:=nQ j x J;simpa using this)
                     exact⟨_,_,_,.inl VG,hvs,(jf.drew g).trans ua,fun m' tP=>Env.iy tP,.inr rfl⟩
                   . exact sU (r:=new) (w1:=w.drew) (c:=#[]++kC++Builtin.zeroCells z'.cells (grownCap w k 0 el-k)) (el:=el) g hn tsc ho rfl rfl rfl rfl VG En hvs
                . cases e
             ·
              rename_i len cs _;obtain⟨⟨a,jQ,vs,rfl,oq,hd,SX,uL⟩,xW⟩:=rs;obtain⟨_,xW⟩:=xW rfl;simp only[Value.slice.injEq]at xW;obtain⟨_,_,hq⟩:=xW;have hq:=hq.symm;subst hq;split at e
              . obtain rfl:=eU e;refine eL g (v':=.slice a len len) ?_ ⟨⟨a,len,vs,rfl,oq,hd,SX,uL⟩,fun _=>⟨a,rfl⟩⟩;rw[Sem.run_bind,run_append_room hu J MS hi t1 (t3 w rfl) S];have SX:kC.toList=[]:=by simp at t2;simpa[t2]using fo t4
                rw[SX];cases a<;>rfl
              . rename_i OM;have U:0<k:=by
                 cases k with
                 |zero=>exact absurd rfl OM
                 |succ _=>omega
                split at e
                . rename_i qD;obtain⟨qD,hl⟩:=qD;cases ho:newObj h n ((Row.ds cs).app new).Ei with
                  |none=>simp[ho]at e
                  |some p=>
                   obtain⟨h',n'⟩:=p;simp only[ho,aq]at e;subst e;obtain⟨r1,r2⟩:=Ck qD;obtain⟨t1',_,_,HD,t3',t4'⟩:=HB (P:=P) (size:=i.size) (x:=.eE true len cs) (x':=.slice a len len) g ⟨⟨a,len,vs,rfl,oq,hd,SX,uL⟩,fun _=>⟨a,rfl⟩⟩ (k:=len) (new:=.ds cs) (by simp only[jE,aD hl]);have gx:=lJ (w:=w) (ty:=ty) hu J MS hi DF (base:=a) (sLen:=len) (sCap:=len) (x':=x') (old:=HD) t1 t3' t3 S q2 r1;have oq:len+k<=grownCap w (len+k) len el:=by simp only[grownCap,Question.cut];omega
                   have hol:HD.size=len*i.size:=by have:=fo t4';simp[Row.kH,D.gq,hl]at this;omega
                   have mP:(HD++kC++Builtin.zeroCells z'.cells (grownCap w (len+k) len el-(len+k))).size=grownCap w (len+k) len el*i.size:=by
                    simp only[Array.size_append,nc,hzs,VC,hol];rw[<- dh,<- dh];congr 1;omega
                   refine sU (r:=(Row.ds cs).app new) (w1:=w.drew) (c:=HD++kC++Builtin.zeroCells z'.cells (grownCap w (len+k) len el-(len+k))) (el:=el) (v':=.slice (some ⟨w.heap.size,0,none⟩) (len+k) (grownCap w (len+k) len el)) g hn (Row.JI (jk hd) tsc) ho rfl rfl rfl rfl ?_ ?_ ?_
                   . simp only[Sem.run_bind,gx,Result.andThen_ok,Sem.run_pure]
                   . refine xO (Row.JH _ _) ?_;intro j v q;have q':=iY t4' t4;obtain⟨v',p1,p2⟩:=gW q' j v q;refine⟨v',?_,p2⟩;have hj:=(aO.1 p1).1;rw[cJ (by simp at hj ⊢;omega)];rw[<- bP];simpa using p1
                   . refine⟨w.heap.size,0,0,grownCap w (len+k) len el,Env.ga,fun _=>rfl,aK _,oq,?_,rfl⟩;rw[mP];simp[Env.put]
                . cases e
             ·
              rename_i m o len jQ kY _;split at e
              . rename_i hq2;obtain⟨u1,u2,u3⟩:=hq2;subst u1;obtain⟨b,sh,o',gP,jI,c1,c2,c3,c4,rfl⟩:=rs;obtain⟨r1,r2⟩:=Ck u2;split at e
                ·
                 rename_i S2 An s0 K;split at e
                 case h_2=>cases e
                 rename_i t ht;split at e
                 case isFalse=>cases e
                 rename_i ab4;obtain⟨⟨ho0,ab5⟩,⟨jl,xW⟩,DU,aiQ⟩:=ab4;obtain⟨b',sh',Ba,c,fz,xs,rR,hsh,mP,⟨DQ,JT⟩,Ch,ot⟩:=g.rel m _ K;rw[jI]at Ba;cases Ba;subst hsh;have Fv:o'=0:=by have:=c1 ab5;omega
                 subst Fv;obtain⟨ys,hy1,hy2⟩:=Fy ht;rw[hy1]at t4;have hnv:=MR t4;have awi:xs.length=s0.length:=by rw[<- Ch,HC]
                 generalize hX:xs.take len=Sw;have JS:Sw.length=len:=by rw[<- hX,aW];omega
                 have VH:∀(j:Nat) (x:Int),Sw[j]? =some x->c[j]? =some (.int .u8 x):=fun j x J=>by
                  rw[<- hX,bW]at J;split at J
                  . exact ot j x J
                  . cases J
                 have hyl:ys.length=k:=by have:=aI List.length hy1;simp at this;rw[<- this,t2,DU];omega
                 cases ho:newObj (h.set m none) n (.vM S2 An (s0.take len++t))with
                 |none=>simp[ho]at e
                 |some p=>
                  obtain⟨h',n'⟩:=p;simp only[ho,aq]at e;subst e;subst aiQ;obtain⟨gX,rfl,rfl⟩:=kS ho;have Xc:nG (Sw++ys)=s0.take len++t:=by rw[<- hX,<- Ch,<- hy2];simp[nG,dm]
                  have htl:(s0.take len++t).length=len+k:=by rw[<- Xc,HC,aH,JS,hyl]
                  by_cases qD:len+k<=gP
                  ·
                   have HE:0+(len+k)*i.size<=c.size:=by
                    have:(len+k)*i.size<=gP*i.size:=cM _ qD;omega
                   rw[DU]at HE c4;have JN:∀v∈kC.toList,v.oneCell'=true:=by
                    intro v hv;rw[hnv]at hv;obtain⟨x,_,rfl⟩:=bS.1 hv;rfl
                   have SR:kC.toList.length=k:=by rw[hnv,bG,hyl]
                   obtain⟨w',e1,e2,e3,e4,e5,e6,e7⟩:=tR (P:=P) (o:=len) kC.toList 0 w c rR (fun j h1 C h3=>by
                    have hj:j<c.size:=by omega
                    cases An with
                    |true=>
                     have:=xW rfl;omega
                    |false=>have:=JT rfl;omega) JN S
                   have wh:len+kC.toList.length<=c.size:=by omega
                   have Bq:=jf.move (n:=n) (R:=0) (o:=.vM S2 An (s0.take len++t)) g u3 gX hn ⟨_,K,rfl⟩ jI e3 e4 e5 e6 e7 (by
                    refine⟨_,fz,Sw++ys,e2,rfl,by rw[Nat.add_zero,jR wh];simp[Env.put,mP],⟨?_,JT⟩,Xc,fun j x J=>?_⟩
                    . rw[htl];cases An with
                      |true=>have:=xW rfl;omega
                      |false=>exact .inl (JT rfl)
                    . rw[Nat.add_zero,mY wh];by_cases hj:j<len
                      . rw[bD S]at J;rw[aA S];exact VH j x J
                      . rw[cT S,JS]at J;have SZ:j-len<ys.length:=(aO.1 J).1;rw[aD S,hnv,bC,J];rfl)
                   refine⟨_,w',.slice (some ⟨b,0,none⟩) (len+k) gP,.inl ?_,?_,Bq,fun m' tP=>Env.iy tP,.inr rfl⟩
                   . rw[Sem.run_bind,run_append_room hu J MS hi t1 (t3 w rfl) qD];simp only[Addr.ji,DU,cP,bB,e1,Result.andThen_ok,Sem.run_pure]
                   . refine⟨b,0,0,gP,Env.ga,fun _=>rfl,aK _,qD,?_,rfl⟩;simpa[Env.put,DU]using c4
                  ·
                   have v1:0+len*i.size<=c.size:=by
                    have:len*i.size<=gP*i.size:=cM _ S;omega
                   have pW:(c.toList.drop 0).take (len*i.size)=Sw.map (Value.int .u8):=by
                    rw[DU,cP]at *;apply List.ext_getElem?;intro j;rw[bW,bC];by_cases hj:j<len
                    . rw[aD hj,bx];have SZ:j<Sw.length:=by omega
                      rw[au SZ];have:=VH j _ (au SZ);simpa using this
                    . rw[aA hj,ct S];rfl
                   have hf:∀w1:World,w1.heap=w.heap->(Builtin.firstCells i.size len (.slice (some ⟨b,0,none⟩) len gP)).run P w1= .ok ((c.toList.drop 0).take (len*i.size)).toArray w1:=fun w1 JJ=>by
                    simp only[Builtin.firstCells];exact run_loadCells (by rw[JJ];exact rR) v1
                   have gx:=lJ (w:=w) (ty:=ty) hu J MS hi DF t1 hf t3 S q2 r1;have oq:len+k<=grownCap w (len+k) gP S2:=by simp only[grownCap,Question.cut];omega
                   have uf:=jf.forget g u3;rw[pW]at gx;have G1:((Sw.map (Value.int .u8)).toArray).size=len:=by simp[JS]
                   have SR:kC.size=k:=by rw[VC,DU,cP]
                   generalize hC:((Sw.map (Value.int .u8)).toArray++kC++Builtin.zeroCells z'.cells (grownCap w (len+k) gP S2-(len+k)))=h2 at gx;have hCs:h2.size=grownCap w (len+k) gP S2*i.size:=by
                    rw[<- hC,Array.size_append,Array.size_append,nc,hzs,SR,G1,DU,cP,cP];omega
                   have ua:=jf.alloc (n:=n) (ob:=.cells h2 S2) (o:=.vM S2 An (s0.take len++t)) (w:=w.drew) (uf.good.same rfl) hn gX (by
                    refine⟨h2,_,Sw++ys,heap_alloc_new,rfl,by simp[Env.put,ki],⟨.inl rfl,fun _=>rfl⟩,Xc,fun j x J=>?_⟩;rw[<- hC];have Oi:j<(Sw++ys).length:=(aO.1 J).1;rw[aH]at Oi;rw[cJ (by rw[Array.size_append,G1,SR];omega)];by_cases hj:j<len
                    . rw[bD S]at J;rw[cJ S];simp[J]
                    . rw[cT S]at J;rw[Array.getElem?_append_right S,G1,<- bP,hnv,bC,<- JS,J];rfl)
                   refine⟨_,_,.slice (some ⟨w.heap.size,0,none⟩) (len+k) (grownCap w (len+k) gP S2),.inl (by simp only[Sem.run_bind,gx,Result.andThen_ok,Sem.run_pure]),?_,(uf.trans (jf.drew uf.good)).trans ua,fun m' tP=>Env.iy tP,.inr rfl⟩;refine⟨w.heap.size,0,0,grownCap w (len+k) gP S2,Env.ga,fun _=>rfl,aK _,oq,?_,rfl⟩;simp[Env.put,ki,hCs]
                . rename_i ob _ K;split at e
                  . rename_i rw0 Cj;obtain⟨b',sh',Ba,q0⟩:=g.rel m _ K;obtain⟨⟨c,el',fz,rR,mP,JT,En⟩,WY⟩:=Ht Cj q0;rw[jI]at Ba;cases Ba;split at e
                    . rename_i old pW;have ab7:old.sc/\o'+len*i.size<=c.size/\eC E old.kH ((c.toList.drop o').take (len*i.size)):=by
                       have hb0:len*i.size<=gP*i.size:=cM _ S;refine⟨?_,S,?_⟩
                       . split at pW
                         . obtain rfl:=eU pW;trivial
                         . exact Row.OI pW WY
                       split at pW
                       . rename_i DD;obtain⟨_,rfl⟩:=DD;obtain rfl:=eU pW;simp[eC,Row.kH]
                       . rename_i DD;rcases cH len with hlz|hl
                         . obtain⟨_,OY⟩:=zq (Row.Fl pW);rw[OY,hlz];simp[eC]
                         obtain⟨mg,OY⟩:=zq (Row.Fl pW);rw[OY];have Fv:o'=sh+o:=c1 S;subst Fv;exact nP En mg S
                      obtain⟨ab8,v1,v2⟩:=ab7;have hol:old.kH.length=len*i.size:=by have:=fo v2;simp at this;omega
                      split at e
                      . rename_i OM;obtain⟨_,hk1⟩:=OM;obtain rfl:=eU e;subst hk1;refine eL g (v':=.slice (some ⟨b,o',none⟩) len gP) ?_ ⟨b,sh,o',gP,jI,c1,c2,c3,c4,rfl⟩;have SX:kC.toList=[]:=by simp at VC;simp[VC]
                        rw[Sem.run_bind,run_append_room hu J MS hi t1 (t3 w rfl) S,SX];rfl
                      . rename_i OM;cases ho:newObj (h.set m none) n (old.app new).Ei with
                        |none=>simp[ho]at e
                        |some p=>
                         obtain⟨h',n'⟩:=p;simp only[ho,aq]at e;subst e;obtain⟨gX,rfl,rfl⟩:=kS ho;by_cases qD:len+k<=gP
                         ·
                          have HE:o'+(len+k)*i.size<=c.size:=by
                           have:(len+k)*i.size<=gP*i.size:=cM _ qD;omega
                          have awl:(len+k)*i.size=len*i.size+k*i.size:=dh _ _ _;have JN:∀v∈kC.toList,v.oneCell'=true:=by
                           intro v hv;obtain⟨j,hj⟩:=List.getElem?_of_mem hv;have eY:j<new.kH.length:=by rw[<- fo t4];exact(aO.1 hj).1
                           obtain⟨v',p1,p2⟩:=gW t4 j new.kH[j] (au eY);rw[hj]at p1;cases p1;exact uH p2 (by rw[br]at JG;exact JG _ (bJ eY))
                          obtain⟨w',e1,e2,e3,e4,e5,e6,e7⟩:=mZ (P:=P) (o:=o'+len*i.size) kC.toList 0 w c rR JT JN (by simp;omega);have wh:o'+len*i.size+kC.toList.length<=c.size:=by simp;omega
                          have Bq:=jf.move (n:=n) (R:=o') (o:=(old.app new).Ei) g u3 gX hn ⟨_,K,OK Cj⟩ jI e3 e4 e5 e6 e7 (by
                           have mg:E.le (E.put n b o' (E.β b)):=Env.uJ hn fun _ _ _ _ _=>rfl;refine xP ⟨_,el',fz,e2,by rw[jR (by simpa using wh)];simp[Env.put,mP],by rw[jR (by simpa using wh)];exact JT,?_⟩ (Row.JI ab8 tsc);refine xO (Row.JH _ _) ?_;refine pC mg ?_;intro j v q;rw[mY (by simpa using wh)];by_cases hj:j<len*i.size
                           . rw[bD S]at q;rw[aA S];obtain⟨v',p1,p2⟩:=gW v2 j v q;refine⟨v',?_,p2⟩;rw[bW,aD hj,bX]at p1;simpa using p1
                           . rw[cT S,hol]at q;have SZ:j-len*i.size<new.kH.length:=(aO.1 q).1;rw[aD (by simp;omega)];obtain⟨v',p1,p2⟩:=gW t4 _ v q;refine⟨v',?_,p2⟩;rw[<- p1];congr 1;omega)
                          refine⟨_,w',.slice (some ⟨b,o',none⟩) (len+k) gP,.inl ?_,?_,Bq,fun m' tP=>Env.iy tP,.inr rfl⟩
                          . rw[Sem.run_bind,run_append_room hu J MS hi t1 (t3 w rfl) qD];simp only[Addr.ji,e1,Result.andThen_ok,Sem.run_pure]
                          . refine⟨b,o',o',gP,Env.ga,fun _=>rfl,aK _,qD,?_,rfl⟩;simpa[Env.put]using c4
                         ·
                          have hf:∀w1:World,w1.heap=w.heap->(Builtin.firstCells i.size len (.slice (some ⟨b,o',none⟩) len gP)).run P w1= .ok ((c.toList.drop o').take (len*i.size)).toArray w1:=fun w1 JJ=>by
                           simp only[Builtin.firstCells];exact run_loadCells (by rw[JJ];exact rR) v1
                          have gx:=lJ (w:=w) (ty:=ty) hu J MS hi DF t1 hf t3 S q2 r1;have oq:len+k<=grownCap w (len+k) gP el:=by simp only[grownCap,Question.cut];omega
                          have uf:=jf.forget g u3;have G1:((c.toList.drop o').take (len*i.size)).toArray.size=len*i.size:=by simp;omega
                          have MU:(((c.toList.drop o').take (len*i.size)).toArray++kC++Builtin.zeroCells z'.cells (grownCap w (len+k) gP el-(len+k))).size=grownCap w (len+k) gP el*i.size:=by
                           rw[Array.size_append,Array.size_append,nc,hzs,VC,G1];rw[<- dh,<- dh];congr 1;omega
                          obtain⟨E',w',v',p1,p2,p3,p4,p5⟩:=sU (P:=P) (r:=old.app new) (s:=(do pure (.value (<- Builtin.append_ #[st,xt] ty #[.slice (some ⟨b,o',none⟩) len gP,x'])):Sem Next))
                           (v:=.eZ (some (n,0)) (len+k) (len+k) i.size) (w1:=w.drew) (c:=((c.toList.drop o').take (len*i.size)).toArray++kC++Builtin.zeroCells z'.cells (grownCap w (len+k) gP el-(len+k))) (el:=el)
                           (v':=.slice (some ⟨w.heap.size,0,none⟩) (len+k) (grownCap w (len+k) gP el)) uf.good hn (Row.JI ab8 tsc) ho rfl rfl rfl rfl
                           (by simp only[Sem.run_bind,gx,Result.andThen_ok,Sem.run_pure])
                           (by
                            refine xO (Row.JH _ _) ?_;intro j v q;have q':=iY v2 t4;obtain⟨v',p1,p2⟩:=gW q' j v q;refine⟨v',?_,p2⟩;have hj:=(aO.1 p1).1;rw[cJ (by simp at hj ⊢;omega)];rw[<- bP];simpa using p1)
                           (by
                            refine⟨w.heap.size,0,0,grownCap w (len+k) gP el,Env.ga,fun _=>rfl,aK _,oq,?_,rfl⟩;rw[MU];simp[Env.put])
                          exact⟨E',w',v',p1,p2,uf.trans p3,p4,p5⟩
                    . cases e
                  . cases e
                . cases e
              . cases e
             . cases e
           . cases e
         . cases e
       . cases e
     . cases e
   . cases e
 . cases e
end
theorem jt{kk:Option IntKind}{a b:D}(ha:gF kk a=true)(Y:gF kk b=true):ik a b=true↔a=b:=by
 cases kk with
 |none=>
  cases a<;>simp only[gF,aM]at ha;cases b<;>simp only[gF,aM]at Y;rename_i s t;simp only[ik,kD,cm,D.str.injEq]
 |some k=>
  cases a<;>simp only[gF,aM,aS]at ha;cases b<;>simp only[gF,aM,aS]at Y;subst ha;subst Y;simp[ik]
theorem HF{φ:Nat->Option (Array Value)}{kd:TypeDesc}{kk:Option IntKind}{a b:D}{a' b':Value}(hd:lz kd kk=true)(ha:gF kk a=true)(Y:gF kk b=true)(ra:lg φ a a')(rb:lg φ b b'):
  Instr.sameNow kd a' b'=some (ik a b):=by
 cases kk with
 |none=>
  cases a<;>simp only[gF,aM]at ha;cases b<;>simp only[gF,aM]at Y;simp only[lg]at ra rb;subst ra;subst rb;cases kd<;>simp only[lz,aM]at hd;simp only[Instr.sameNow,ik];rw[rO]
 |some k=>
  cases a<;>simp only[gF,aM,aS]at ha;cases b<;>simp only[gF,aM,aS]at Y;subst ha;subst Y;simp only[lg]at ra rb;subst ra;subst rb;cases kd<;>simp only[lz,aM]at hd;simp[Instr.sameNow,ik];rfl
theorem rS{φ:Nat->Option (Array Value)}{kd:TypeDesc}{kk:Option IntKind}{k:D}{k':Value}(hd:lz kd kk=true)(U:gF kk k=true)(rk:lg φ k k'):
  ∀(l:ae) (fS:List MapEntry) (i:Nat),kN φ l fS->(∀e∈l,gF kk e.1=true)->
  match fG k l with
  |none=>Instr.findNow kd k' fS i=some none/\(∀v,nI k v l=l++[(k,v)])/\ue k l=l/\k∉l.map (·.1)
  |some d=>∃j e',i<=j/\fS[j-i]? =some e'/\lg φ d e'.val/\lg φ k e'.key/\Instr.findNow kd k' fS i=some (some (j,e'.val))/\l[j-i]? =some (k,d)/\(∀v,nI k v l=l.set (j-i) (k,v))/\ue k l=l.eraseIdx (j-i)
 | [],fS,i,r,_=>by
   simp only[kN]at r;subst r;simp only[fG];exact⟨rfl,fun _=>rfl,rfl,by simp⟩
 |x::l,_,i,r,hl=>by
  obtain⟨y,ys,r1,r2,rs,rfl⟩:=r;have J:=hl x (by simp);have hs:=HF hd U J rk r1;simp only[fG];cases hq:ik k x.1 with
  |true=>
   have e:=(jt U J).1 hq;refine⟨i,y,aK _,by simp,r2,by rw[e];exact r1,?_,?_,fun v=>?_,?_⟩
   . simp only[Instr.findNow,hs,hq]
   . simp[e]
   . simp[nI,hq]
   . simp[ue,hq]
  |false=>
   have ih:=rS hd U rk l ys (i+1) rs fun e he=>hl e (by simp[he]);simp only;cases hL:fG k l with
   |none=>
    rw[hL]at ih;obtain⟨i1,i2,i3,i4⟩:=ih;refine⟨?_,fun v=>?_,?_,?_⟩
    . simp only[Instr.findNow,hs,hq,i1]
    . simp[nI,hq,i2]
    . simp[ue,hq,i3]
    . intro h;simp only[bQ,az]at h;rcases h with q|q
      . rw[(jt U J).2 q]at hq;cases hq
      . exact i4 q
   |some d=>
    rw[hL]at ih;obtain⟨j,e',j1,j2,j3,j4,j5,j6,j7,j8⟩:=ih;have hj:j-i=(j-(i+1))+1:=by omega
    refine⟨j,e',S,by rw[hj];simpa using j2,j3,j4,?_,by rw[hj];simpa using j6,fun v=>?_,?_⟩
    . simp only[Instr.findNow,hs,hq,j5]
    . rw[hj];simp[nI,hq,j7]
    . rw[hj];simp[ue,hq,j8]
theorem zw{kk:Option IntKind}{k d:D}(U:gF kk k=true):∀{l:ae},(∀e∈l,gF kk e.1=true)->(l.map (·.1)).Nodup->(fG k l=some d↔(k,d)∈l)
 | [],_,_=>by simp[fG]
 |x::l,hl,hn=>by
  have J:=hl x (by simp);simp only[bQ,List.nodup_cons]at hn;simp only[fG];cases hq:ik k x.1 with
  |true=>
   have e:=(jt U J).1 hq;simp only[aq,az];constructor
   . intro h;left;rw[e,<- h]
   . rintro(h|h)
     . rw[<- h]
     . exact absurd (bS.2 ⟨(k,d),h,e⟩) hn.1
  |false=>
   have e:k≠x.1:=fun h=>by rw[(jt U J).2 h]at hq;cases hq
   simp only[az];rw[zw U (fun e he=>hl e (by simp[he])) hn.2];constructor
   . exact .inr
   . rintro(h|h)
     . exact absurd (by rw[<- h]) e
     . exact h
section
variable{kk:Option IntKind}{k:D}
theorem JU(U:gF kk k=true){l O:ae}(h:List.Perm l O)(hl:∀e∈O,gF kk e.1=true)(hn:(O.map (·.1)).Nodup):fG k l=fG k O:=by
 have hl':∀e∈l,gF kk e.1=true:=fun e he=>hl e (h.mem_iff.1 he);have od:(l.map (·.1)).Nodup:=(h.map _).nodup_iff.2 hn;apply Option.ext;intro d;rw[zw U hl' od,zw U hl hn,h.mem_iff]
theorem MV{v:D}(U:gF kk k=true){l O:ae}(h:List.Perm l O):(∀e∈O,gF kk e.1=true)->(O.map (·.1)).Nodup->List.Perm (nI k v l) (nI k v O):=by
 induction h with
 |nil=>intro _ _;exact .refl _
 |cons x p ih=>
  intro hl hn;simp only[nI];cases ik k x.1 with
  |true=>exact .cons _ p
  |false=>exact .cons _ (ih (fun e he=>hl e (by simp[he])) (by simp at hn;exact hn.2))
 |swap x y l=>
  intro hl hn;simp only[nI];have J:=hl x (by simp);have hy:=hl y (by simp);cases hqx:ik k x.1 with
  |true=>
   have ex:=(jt U J).1 hqx;cases hqy:ik k y.1 with
   |true=>
    have ey:=(jt U hy).1 hqy;simp[<- ex,<- ey]at hn
   |false=>exact .swap _ _ _
  |false=>
   cases hqy:ik k y.1 with
   |true=>exact .swap _ _ _
   |false=>exact .swap _ _ _
 |trans p q OZ O0=>
  intro hl hn;exact(OZ (fun e he=>hl e (q.mem_iff.1 he)) ((q.map _).nodup_iff.2 hn)).trans (O0 hl hn)
theorem MW(U:gF kk k=true){l O:ae}(h:List.Perm l O):(∀e∈O,gF kk e.1=true)->(O.map (·.1)).Nodup->List.Perm (ue k l) (ue k O):=by
 induction h with
 |nil=>intro _ _;exact .refl _
 |cons x p ih=>
  intro hl hn;simp only[ue];cases ik k x.1 with
  |true=>exact p
  |false=>exact .cons _ (ih (fun e he=>hl e (by simp[he])) (by simp at hn;exact hn.2))
 |swap x y l=>
  intro hl hn;simp only[ue];have J:=hl x (by simp);have hy:=hl y (by simp);cases hqx:ik k x.1 with
  |true=>
   have ex:=(jt U J).1 hqx;cases hqy:ik k y.1 with
   |true=>
    have ey:=(jt U hy).1 hqy;simp[<- ex,<- ey]at hn
   |false=>exact .refl _
  |false=>
   cases hqy:ik k y.1 with
   |true=>exact .refl _
   |false=>exact .swap _ _ _
 |trans p q OZ O0=>
  intro hl hn;exact(OZ (fun e he=>hl e (q.mem_iff.1 he)) ((q.map _).nodup_iff.2 hn)).trans (O0 hl hn)
end
theorem Er{φ:Nat->Option (Array Value)}{f:MapEntry->MapEntry}{x:D×D}(hf:∀y,lg φ x.1 (f y).key/\lg φ x.2 (f y).val):∀(l:ae) (O:List MapEntry) (i:Nat),kN φ l O->kN φ (l.set i x) (O.modify i f)
 | [],_,i,r=>by simp only[kN]at r;subst r;simp[kN]
 |a::l,_,i,r=>by
  obtain⟨y,ys,r1,r2,rs,rfl⟩:=r;cases i with
  |zero=>exact⟨f y,ys,(hf y).1,(hf y).2,rs,by simp⟩
  |succ i=>exact⟨y,_,r1,r2,Er hf l ys i rs,by simp⟩
theorem wL{φ:Nat->Option (Array Value)}:∀(l:ae) (O:List MapEntry) (x:D×D) (y:MapEntry),kN φ l O->lg φ x.1 y.key->lg φ x.2 y.val->kN φ (l++[x]) (O++[y])
 | [],_,x,y,r,a,b=>by simp only[kN]at r;subst r;exact⟨y,[],a,b,rfl,rfl⟩
 |z::l,_,x,y,r,a,b=>by
  obtain⟨y0,ys,r1,r2,rs,rfl⟩:=r;exact⟨y0,_,r1,r2,wL l ys x y rs a b,rfl⟩
theorem Ax{φ:Nat->Option (Array Value)}:∀(l:ae) (O:List MapEntry) (i:Nat),kN φ l O->kN φ (l.eraseIdx i) (O.eraseIdx i)
 | [],_,i,r=>by simp only[kN]at r;subst r;simp[kN]
 |a::l,_,i,r=>by
  obtain⟨y,ys,r1,r2,rs,rfl⟩:=r;cases i with
  |zero=>exact rs
  |succ i=>exact⟨y,_,r1,r2,Ax l ys i rs,rfl⟩
theorem xY{φ:Nat->Option (Array Value)}:∀{l:ae} {O:List MapEntry},kN φ l O->O.length=l.length
 | [],_,r=>by simp only[kN]at r;subst r;rfl
 |_::_,_,r=>by obtain⟨y,ys,_,_,rs,rfl⟩:=r;simp[xY rs]
open Classical in
theorem zx{kk:Option IntKind}{k v:D}(U:gF kk k=true):∀(l:ae),(∀e∈l,gF kk e.1=true)->(nI k v l).map (·.1)=if k∈l.map (·.1)then l.map (·.1)else l.map (·.1)++[k]
 | [],_=>by simp[nI]
 |x::l,hl=>by
  have J:=hl x (by simp);simp only[nI];cases hq:ik k x.1 with
  |true=>
   have e:=(jt U J).1 hq;simp[e]
  |false=>
   have e:k≠x.1:=fun h=>by rw[(jt U J).2 h]at hq;cases hq
   simp only[bQ,zx U l fun e he=>hl e (by simp[he]),az,e,false_or];split<;>simp
theorem HG{k:D}:∀(l:ae),List.Sublist (ue k l) l
 | []=>.slnil
 |x::l=>by
  simp only[ue];cases ik k x.1 with
  |true=>exact List.sublist_cons_self _ _
  |false=>exact .cons_cons _ (HG l)
open Classical in
section
variable{φ:Nat->Option (Array Value)}{kd:TypeDesc}{kk:Option IntKind}{O:ae}{fS:Array MapEntry}{fg:Nat}{k:D}{k':Value}
theorem kg.Cl{v:D}{k' v':Value}(r:kg φ kk O fS.toList fg)(hd:lz kd kk=true)(U:gF kk k=true)(rk:lg φ k k')(rv:lg φ v v'):
  (Instr.findNow kd k' fS.toList 0=some none/\kg φ kk (nI k v O) (fS.push { key:=k',val:=v',born:=fg }).toList (fg+1)) \/
  ∃(j:Nat) (e':MapEntry),Instr.findNow kd k' fS.toList 0=some (some (j,e'.val))/\fS[j]? =some e'/\lg φ k e'.key/\kg φ kk (nI k v O) (fS.modify j fun e=>{ e with key:=k',val:=v' }).toList fg:=by
 obtain⟨l,hp,hr⟩:=r.row;have hl:∀e∈l,gF kk e.1=true:=fun e he=>r.kind e (hp.mem_iff.1 he);have VI:=MV (v:=v) U hp r.kind r.keys;have HI:((nI k v O).map (·.1)).Nodup:=by
  rw[zx U O r.kind];split
  . exact r.keys
  . rename_i h;exact List.nodup_append.2 ⟨r.keys,by simp,fun a ha b Y=>by simp at Y;subst Y;intro q;subst q;exact h ha⟩
 have HJ:∀e∈nI k v O,gF kk e.1=true:=by
  intro e he;have:e.1∈(nI k v O).map (·.1):=bS.2 ⟨e,he,rfl⟩;rw[zx U O r.kind]at this;have base:e.1∈O.map (·.1)->gF kk e.1=true:=fun h=>by obtain⟨x,J,q⟩:=bS.1 h;rw[<- q];exact r.kind x J
  split at this
  . exact base this
  . rcases bf.1 this with h|h
    . exact base h
    . simp at h;rw[h];exact U
 have hf:=rS hd U rk l fS.toList 0 hr hl;cases hL:fG k l with
 |none=>
  rw[hL]at hf;obtain⟨h1,C,_,_⟩:=hf;refine .inl ⟨h1,⟨⟨_,VI,?_⟩,HI,HJ,?_,?_⟩⟩
  . rw[C,Array.toList_push];exact wL l fS.toList (k,v) _ hr rk rv
  . intro e he;rw[Array.toList_push]at he;rcases bf.1 he with q|q
    . have:=r.old e q;omega
    . simp at q;subst q;simp
  . rw[Array.toList_push,bM];refine List.nodup_append.2 ⟨r.born,by simp,fun a ha b Y=>?_⟩;simp at Y;subst Y;obtain⟨e,he,q⟩:=bS.1 ha;have:=r.old e he;omega
 |some d=>
  rw[hL]at hf;obtain⟨j,e',_,C,h3,h4,h5,h6,h7,_⟩:=hf;simp only[dr]at C h6 h7;have Lz:(fS.modify j fun e=>{ e with key:=k',val:=v' }).toList.map (·.born)=fS.toList.map (·.born):=by
   rw[Array.toList_modify];apply List.ext_getElem?;intro i;simp only[bC,List.getElem?_modify];by_cases O1:j=i
   . simp[O1];cases fS.toList[i]? <;>rfl
   . simp[O1]
  refine .inr ⟨j,e',h5,by rw[<- bP];exact C,h4,⟨⟨_,VI,?_⟩,HI,HJ,?_,?_⟩⟩
  . rw[h7,Array.toList_modify];exact Er (f:=fun e=>{ e with key:=k',val:=v' }) (fun y=>⟨rk,rv⟩) l fS.toList j hr
  . intro e he;have:e.born∈(fS.modify j fun e=>{ e with key:=k',val:=v' }).toList.map (·.born):=bS.2 ⟨e,he,rfl⟩;rw[Lz]at this;obtain⟨e0,he0,q⟩:=bS.1 this;rw[<- q];exact r.old e0 he0
  . rw[Lz];exact r.born
theorem kg.del(r:kg φ kk O fS.toList fg)(hd:lz kd kk=true)(U:gF kk k=true)(rk:lg φ k k'):
  (Instr.findNow kd k' fS.toList 0=some none/\kg φ kk (ue k O) fS.toList fg) \/
  ∃(j:Nat) (e':MapEntry),Instr.findNow kd k' fS.toList 0=some (some (j,e'.val))/\kg φ kk (ue k O) (fS.eraseIdxIfInBounds j).toList fg:=by
 obtain⟨l,hp,hr⟩:=r.row;have hl:∀e∈l,gF kk e.1=true:=fun e he=>r.kind e (hp.mem_iff.1 he);have VI:=MW U hp r.kind r.keys;have qx:List.Sublist (ue k O) O:=HG O;have HI:((ue k O).map (·.1)).Nodup:=r.keys.sublist (qx.map _);have HJ:∀e∈ue k O,gF kk e.1=true:=fun e he=>r.kind e (qx.mem he);have hf:=rS hd U rk l fS.toList 0 hr hl;cases hL:fG k l with
 |none=>
  rw[hL]at hf;obtain⟨h1,_,h3,_⟩:=hf;exact .inl ⟨h1,⟨⟨l,by rw[h3]at VI;exact VI,hr⟩,HI,HJ,r.old,r.born⟩⟩
 |some d=>
  rw[hL]at hf;obtain⟨j,e',_,C,_,_,h5,_,_,h8⟩:=hf;simp only[dr]at C h8;have ht:(fS.eraseIdxIfInBounds j).toList=fS.toList.eraseIdx j:=Array.toList_eraseIdxIfInBounds;refine .inr ⟨j,e',h5,⟨⟨_,VI,?_⟩,HI,HJ,?_,?_⟩⟩
  . rw[h8,ht];exact Ax l fS.toList j hr
  . intro e he;rw[ht]at he;exact r.old e ((List.eraseIdx_sublist _ _).mem he)
  . rw[ht];exact r.born.sublist ((List.eraseIdx_sublist _ _).map _)
theorem kg.look(r:kg φ kk O fS.toList fg)(hd:lz kd kk=true)(U:gF kk k=true)(rk:lg φ k k'):
  match fG k O with
  |none=>Instr.findNow kd k' fS.toList 0=some none
  |some d=>∃j v',Instr.findNow kd k' fS.toList 0=some (some (j,v'))/\lg φ d v':=by
 obtain⟨l,hp,hr⟩:=r.row;have hl:∀e∈l,gF kk e.1=true:=fun e he=>r.kind e (hp.mem_iff.1 he);have hf:=rS hd U rk l fS.toList 0 hr hl;rw[<- JU U hp r.kind r.keys];cases hL:fG k l with
 |none=>rw[hL]at hf;exact hf.1
 |some d=>
  rw[hL]at hf;obtain⟨j,e',_,_,h3,_,h5,_⟩:=hf;exact⟨j,e'.val,h5,h3⟩
end
theorem kg.length{φ:Nat->Option (Array Value)}{kk:Option IntKind}{O:ae}{fS:List MapEntry}{fg:Nat}(r:kg φ kk O fS fg):fS.length=O.length:=by
 obtain⟨l,hp,hr⟩:=r.row;rw[xY hr,hp.length_eq]
theorem pD{E:Env}{x:V}{d:D}{x':Value}(e:keyOf x=some d)(r:eB E x x'):lg E.φ d x':=by
 unfold keyOf at e;split at e<;>first|(cases e;exact r)|cases e
theorem xZ{x:V}{d:D}{kd:TypeDesc}{kk:Option IntKind}(e:keyOf x=some d)(hd:lz kd kk=true)(U:gF kk d=true):BY kd x=true:=by
 unfold keyOf at e;split at e
 . cases e;cases kk<;>simp only[gF,aM]at U;cases kd<;>simp only[lz,aM]at hd;rfl
 . cases e;cases kk<;>simp only[gF,aM]at U;cases kd<;>simp only[lz,aM]at hd;rfl
 . cases e
section
variable{P:Program}{E:Env}{h:I es}{n:Nat}{w:World}
theorem fM{b:Nat}{o:Obj}(Y:w.heap[b]? =some o)(hn:∀c el fz,o≠ .cells c el fz):(getObj b).run P w= .ok o w:=by
 simp only[getObj,Sem.run,Y]
theorem kx{b:Nat}{o o':Obj}(Y:w.heap[b]? =some o)(hn:∀c el fz,o≠ .cells c el fz):(setObj b o').run P w= .ok () { w with heap:=w.heap.setIfInBounds b o' }:=by
 simp only[setObj,Sem.run,Y]
theorem x3:∀{xs:List (V×V×Nat)} {ys:List MapEntry},kM E xs ys->ys.length=xs.length
 | [],_,r=>by simp only[kM]at r;subst r;rfl
 |_::_,_,r=>by obtain⟨y,ys,_,_,_,rs,rfl⟩:=r;simp[x3 rs]
theorem x4{m:Nat}{O:List (V×V×Nat)}{fg:Nat}(g:Good E h w)(K:h.get m=some (.map O fg)):
  ∃b fS,E.ι m=some (b,0)/\w.heap[b]? =some (.map fS fg)/\kM E O fS.toList:=by
 obtain⟨b,s,hi,hs,fS,h1,C⟩:=g.rel m _ K;subst hs;exact⟨b,fS,hi,h1,C⟩
theorem x5{m:Nat}{kk:Option IntKind}{O:ae}(g:Good E h w)(K:h.get m=some (.gM kk O)):
  ∃b fS fg,E.ι m=some (b,0)/\w.heap[b]? =some (.map fS fg)/\kg E.φ kk O fS.toList fg:=by
 obtain⟨b,s,hi,hs,fS,fg,h1,C⟩:=g.rel m _ K;subst hs;exact⟨b,fS,fg,hi,h1,C⟩
theorem Xd{eP:Array TypeId}{ty:TypeId}{args:ag}{dQ:List Value}{v:V}(g:Good E h w)(ra:eC E args dQ)(e:MM P eP args h=some v):
  jX P E h n w (do pure (.value (<- Builtin.len_ eP ty dQ.toArray))) (.val v h n):=by
 unfold MM at e;split at e
 . rename_i t x h1;obtain⟨x',_,rx,lX,rfl⟩:=ra;simp only[eC]at lX;subst lX;split at e
   . rename_i s hu;obtain rfl:=eU e;simp only[eB]at rx;subst rx;refine eL g (v':=.int .i64 s.length) ?_ rfl;have mP:(⟨s.toArray⟩:ByteArray).size=s.length:=by show s.toArray.size=_;simp
     simp[Builtin.len_,h1,eo hu,goInt,mP]
   . rename_i _ k _ hu;obtain rfl:=eU e;refine eL g (v':=.int .i64 k) ?_ rfl;simp[Builtin.len_,h1,eo hu,goInt]
   . rename_i a len jQ kY hu;obtain rfl:=eU e;refine eL g (v':=.int .i64 len) ?_ rfl;cases a with
     |none=>obtain⟨rfl,rfl,rfl⟩:=rx;simp[Builtin.len_,h1,eo hu,goInt]
     |some a=>obtain⟨_,_,_,_,_,_,_,_,_,rfl⟩:=rx;simp[Builtin.len_,h1,eo hu,goInt]
   . rename_i f len cs hu;obtain rfl:=eU e;refine eL g (v':=.int .i64 len) ?_ rfl;obtain⟨⟨_,_,_,rfl,_⟩,_⟩:=rx;simp[Builtin.len_,h1,eo hu,goInt]
   . rename_i hu;obtain rfl:=eU e;simp only[eB]at rx;subst rx;refine eL g (v':=.int .i64 0) ?_ rfl;simp[Builtin.len_,h1,eo hu,goInt]
   . rename_i m hu;split at e
     . rename_i O fg K;obtain rfl:=eU e;obtain⟨b,fS,hi,Y,Br⟩:=x4 g K;obtain⟨b',jI,rfl⟩:=rx;rw[hi]at jI;cases jI;refine eL g (v':=.int .i64 O.length) ?_ rfl;have hl:=x3 Br;simp only[Array.length_toList]at hl;simp[Builtin.len_,h1,eo hu,goInt,fM (P:=P) Y (by intro _ _ _ q;cases q),hl]
     . rename_i kk O K;obtain rfl:=eU e;obtain⟨b,fS,fg,hi,Y,Br⟩:=x5 g K;obtain⟨b',jI,rfl⟩:=rx;rw[hi]at jI;cases jI;refine eL g (v':=.int .i64 O.length) ?_ rfl;have hl:=Br.length;simp only[Array.length_toList]at hl;simp[Builtin.len_,h1,eo hu,goInt,fM (P:=P) Y (by intro _ _ _ q;cases q),hl]
     . cases e
   . cases e
 . cases e
theorem HK:∀(xs:ag) (x v:V) (x':Value) (yZ:List Value),eB E x x'->eC E xs yZ->Hj x xs=some v->
  ∃v',(yZ.foldlM Builtin.max2 x').run P w= .ok v' w/\eB E v v'
 | [],x,v,x',yZ,rx,rs,e=>by
   simp only[eC]at rs;subst rs;have:v=x:=by cases x<;>simp[Hj]at e<;>exact e.symm
   subst this;exact⟨x',rfl,rx⟩
 |y::ys,x,v,x',_,rx,rs,e=>by
  obtain⟨y',El,ry,W7,rfl⟩:=rs;cases x with
  |int k a=>cases y with
   |int j b=>
    simp only[Hj]at e;simp only[eB]at rx ry;subst rx;subst ry;obtain⟨v',h1,C⟩:=HK ys (.int k (if b>a then b else a)) v (.int k (if b>a then b else a)) El rfl W7 e;refine⟨v',?_,C⟩;simp only[List.foldlM_cons,Sem.run_bind,Builtin.max2,Sem.run_pure,Result.andThen_ok];exact h1
   |_=>simp[Hj]at e
  |_=>simp[Hj]at e
theorem HL:∀(xs:ag) (x v:V) (x':Value) (yZ:List Value),eB E x x'->eC E xs yZ->Hl x xs=some v->
  ∃v',(yZ.foldlM Builtin.min2 x').run P w= .ok v' w/\eB E v v'
 | [],x,v,x',yZ,rx,rs,e=>by
   simp only[eC]at rs;subst rs;have:v=x:=by cases x<;>simp[Hl]at e<;>exact e.symm
   subst this;exact⟨x',rfl,rx⟩
 |y::ys,x,v,x',_,rx,rs,e=>by
  obtain⟨y',El,ry,W7,rfl⟩:=rs;cases x with
  |int k a=>cases y with
   |int j b=>
    simp only[Hl]at e;simp only[eB]at rx ry;subst rx;subst ry;obtain⟨v',h1,C⟩:=HL ys (.int k (if b<a then b else a)) v (.int k (if b<a then b else a)) El rfl W7 e;refine⟨v',?_,C⟩;simp only[List.foldlM_cons,Sem.run_bind,Builtin.min2,Sem.run_pure,Result.andThen_ok];exact h1
   |_=>simp[Hl]at e
  |_=>simp[Hl]at e
section
variable{eP:Array TypeId}{ty:TypeId}
theorem Xe{x v:V}{xs:ag}{dQ:List Value}(g:Good E h w)(ra:eC E (x::xs) dQ)(e:Hj x xs=some v):
  jX P E h n w (do pure (.value (<- Builtin.max_ eP ty dQ.toArray))) (.val v h n):=by
 obtain⟨x',yZ,rx,W6,rfl⟩:=ra;obtain⟨v',h1,C⟩:=HK (P:=P) (w:=w) xs x v x' yZ rx W6 e;refine eL g (v':=v') ?_ C;simp only[Builtin.max_,Sem.run_bind,h1,Result.andThen_ok,Sem.run_pure]
theorem Xf{x v:V}{xs:ag}{dQ:List Value}(g:Good E h w)(ra:eC E (x::xs) dQ)(e:Hl x xs=some v):
  jX P E h n w (do pure (.value (<- Builtin.min_ eP ty dQ.toArray))) (.val v h n):=by
 obtain⟨x',yZ,rx,W6,rfl⟩:=ra;obtain⟨v',h1,C⟩:=HL (P:=P) (w:=w) xs x v x' yZ rx W6 e;refine eL g (v':=v') ?_ C;simp only[Builtin.min_,Sem.run_bind,h1,Result.andThen_ok,Sem.run_pure]
end
theorem MX{kd:TypeDesc}{a b:V}{a' b':Value}{r:Bool}(ra:eB E a a')(rb:eB E b b')(e:xH kd a b=some r):Instr.sameNow kd a' b'=some r:=by
 unfold xH at e;split at e
 . simp only[eB]at ra rb;subst ra;subst rb;split at e
   . rename_i U;obtain rfl:=eU e;simp[Instr.sameNow,U]
   . cases e
 . simp only[eB]at ra rb;subst ra;subst rb;obtain rfl:=eU e;simp only[Instr.sameNow];rw[rO]
 . cases e
theorem vx{kd:TypeDesc}{k:V}{k':Value}(rk:eB E k k'):∀(O:List (V×V×Nat)) (fS:List MapEntry) (i:Nat) (r:Option (Nat×V×V×Nat)),kM E O fS->uB kd k O i=some r->
  match r with
  |none=>Instr.findNow kd k' fS i=some none
  |some (j,e)=>∃e',i<=j/\O[j-i]? =some e/\fS[j-i]? =some e'/\xH kd k e.1=some true/\eB E e.1 e'.key/\eB E e.2.1 e'.val/\e'.born=e.2.2/\Instr.findNow kd k' fS i=some (some (j,e'.val))
 | [],fS,i,r,rs,e=>by
   simp only[kM]at rs;subst rs;simp only[uB,aq]at e;subst e;simp[Instr.findNow]
 |x::xs,_,i,r,rs,e=>by
  obtain⟨y,ys,r1,r2,r3,rs,rfl⟩:=rs;simp only[uB]at e;cases U:xH kd k x.1 with
  |none=>simp[U]at e
  |some b=>
   have hs:=MX rk r1 U;cases b with
   |true=>
    simp only[U,aq]at e;subst e;exact⟨y,aK _,by simp,by simp,U,r1,r2,r3,by simp[Instr.findNow,hs]⟩
   |false=>
    simp only[U]at e;have ih:=vx rk xs ys (i+1) r rs e;cases r with
    |none=>simp only at ih ⊢;simp[Instr.findNow,hs,ih]
    |some q=>
     obtain⟨j,e0⟩:=q;obtain⟨e',a1,a2,a3,a4,a5,a6,a7,a8⟩:=ih;have hj:j-i=(j-(i+1))+1:=by omega
     exact⟨e',S,by rw[hj];simpa using a2,by rw[hj];simpa using a3,a4,a5,a6,a7,by simp[Instr.findNow,hs,a8]⟩
section
variable{kt:TypeId}{kd:TypeDesc}{k:V}{k':Value}{b:Bool}
theorem iq{fS:List MapEntry}{r:Option (Nat×Value)}(hu:P.underlying kt=some kd)(e:Instr.findNow kd k' fS 0=some r):
  (Instr.findKey kt k' fS).run P w= .ok r w:=by
 simp[Instr.findKey,eo hu,e]
theorem DV(d:Nat)(hu:P.underlying kt=some kd)(rk:eB E k k')(e:BY kd k=true):(Instr.checkKey b (d+1) kt k').run P w= .ok () w:=by
 unfold BY at e;split at e
 . simp only[eB]at rk;subst rk;simp only[Instr.checkKey,Sem.run_bind,eo hu,Result.andThen_ok];rfl
 . simp only[eB]at rk;subst rk;simp only[Instr.checkKey,Sem.run_bind,eo hu,Result.andThen_ok];rfl
 . cases e
theorem iZ(hu:P.underlying kt=some kd)(rk:eB E k k')(e:BY kd k=true):(Instr.checkKey b 10000 kt k').run P w= .ok () w:=
 DV 9999 hu rk e
end
theorem MY{t:TypeId}{x k v:V}{ok:Bool}{x' k':Value}(g:Good E h w)(rx:eB E x x')(rk:eB E k k')(e:vn P t h x k ok=some v):
  jX P E h n w (do pure (.value (<- Instr.lookup t x' k' ok))) (.val v h n):=by
 unfold vn at e;split at e
 . rename_i kt et hu;split at e
   . rename_i kd z U hz;split at e
     . rename_i r kk O K;split at e
       . rename_i kq Fz;split at e
         . rename_i Y;simp only[ay]at Y;simp only[aq]at e;obtain⟨z',DF,DG,_⟩:=lC (w:=w) E hz;obtain⟨b,fS,fg,hi,rR,hr⟩:=x5 g K;obtain⟨b',jI,rfl⟩:=rx;rw[hi]at jI;cases jI;have x6:=fM (P:=P) rR (by intro _ _ _ q;cases q);have Jr:=xZ Fz Y.1 Y.2;have Js:=iZ (P:=P) (w:=w) (b:=fS.isEmpty) U rk Jr;have hlk:=hr.look Y.1 Y.2 (pD Fz rk);cases hL:fG kq O with
           |none=>
            rw[hL]at hlk e;have gx:(Instr.lookup t (.map (some b)) k' ok).run P w= .ok (if ok then .tuple #[z',.bool false]else z') w:=by
             simp only[Instr.lookup,Sem.run_bind,eo hu,Result.andThen_ok,Sem.run_pure,x6,Js,iq U hlk,DF]
            subst e;refine eL g (v':=if ok then .tuple #[z',.bool false]else z') (by rw[Sem.run_bind,gx];rfl) ?_;cases ok with
            |true=>exact⟨[z',.bool false],⟨z',_,DG,⟨.bool false,[],rfl,rfl,rfl⟩,rfl⟩,rfl⟩
            |false=>exact DG
           |some d=>
            rw[hL]at hlk e;obtain⟨j,v',q1,q2⟩:=hlk;have gx:(Instr.lookup t (.map (some b)) k' ok).run P w= .ok (if ok then .tuple #[v',.bool true]else v') w:=by
             simp only[Instr.lookup,Sem.run_bind,eo hu,Result.andThen_ok,Sem.run_pure,x6,Js,iq U q1]
            subst e;refine eL g (v':=if ok then .tuple #[v',.bool true]else v') (by rw[Sem.run_bind,gx];rfl) ?_;cases ok with
            |true=>exact⟨[v',.bool true],⟨v',_,rI d v' q2,⟨.bool true,[],rfl,rfl,rfl⟩,rfl⟩,rfl⟩
            |false=>exact rI d v' q2
         . cases e
       . cases e
     rename_i x _ _ hnd;split at e
     . rename_i Jr;obtain⟨z',DF,DG,_⟩:=lC (w:=w) E hz;have vO:∀(O:List (V×V×Nat)) (fS:Array MapEntry),kM E O fS.toList->(match uB kd k O 0 with
         |some (some (_,_,v,_))=>some (if ok then V.gV [v,.bool true]else v)
         |some none=>some (if ok then V.gV [z,.bool false]else z)
         |none=>none)=some v->
         ((Instr.findKey kt k' fS.toList).run P w= .ok none w/\eB E v (if ok then .tuple #[z',.bool false]else z')) \/
         ∃j v',(Instr.findKey kt k' fS.toList).run P w= .ok (some (j,v')) w/\eB E v (if ok then .tuple #[v',.bool true]else v'):=by
        intro O fS Br e;cases hf:uB kd k O 0 with
        |none=>simp[hf]at e
        |some r=>
         have hr:=vx rk O fS.toList 0 r Br hf;cases r with
         |none=>
          simp only[hf,aq]at e;subst e;refine .inl ⟨iq U hr,?_⟩;cases ok with
          |true=>exact⟨[z',.bool false],⟨z',_,DG,⟨.bool false,[],rfl,rfl,rfl⟩,rfl⟩,rfl⟩
          |false=>exact DG
         |some q=>
          obtain⟨j,k0,v0,X⟩:=q;simp only[hf,aq]at e;subst e;obtain⟨e',_,_,_,_,_,a6,_,a8⟩:=hr;refine .inr ⟨j,e'.val,iq U a8,?_⟩;cases ok with
          |true=>exact⟨[e'.val,.bool true],⟨e'.val,_,a6,⟨.bool true,[],rfl,rfl,rfl⟩,rfl⟩,rfl⟩
          |false=>exact a6
       cases x with
       |map m=>
        cases m with
        |none=>
         simp only at e;simp only[eB]at rx;subst rx;rcases vO [] #[] (by simp[kM]) e with⟨m1,m3⟩|⟨j,v',m1,m3⟩
         . refine eL g ?_ m3;simp only[Instr.lookup,Sem.run_bind,eo hu,Result.andThen_ok,Sem.run_pure,iZ (b:=(#[]:Array MapEntry).isEmpty) U rk Jr,m1,DF]
         . refine eL g ?_ m3;simp only[Instr.lookup,Sem.run_bind,eo hu,Result.andThen_ok,Sem.run_pure,iZ (b:=(#[]:Array MapEntry).isEmpty) U rk Jr,m1]
        |some m=>
         simp only at e;cases K:h.get m with
         |none=>simp[K]at e
         |some o=>
          cases o with
          |map O fg=>
           simp only[K]at e;obtain⟨b,fS,hi,Y,Br⟩:=x4 g K;obtain⟨b',jI,rfl⟩:=rx;rw[hi]at jI;cases jI;have x6:=fM (P:=P) Y (by intro _ _ _ q;cases q);rcases vO O fS Br e with⟨m1,m3⟩|⟨j,v',m1,m3⟩
           . refine eL g ?_ m3;simp only[Instr.lookup,Sem.run_bind,eo hu,Result.andThen_ok,Sem.run_pure,x6,iZ (b:=fS.isEmpty) U rk Jr,m1,DF]
           . refine eL g ?_ m3;simp only[Instr.lookup,Sem.run_bind,eo hu,Result.andThen_ok,Sem.run_pure,x6,iZ (b:=fS.isEmpty) U rk Jr,m1]
          |_=>simp[K]at e
       |_=>simp at e
     . cases e
   . cases e
 . cases e
theorem pc{f:V×V×Nat->V×V×Nat}{f':MapEntry->MapEntry}(hf:∀x y,eB E x.1 y.key->eB E x.2.1 y.val->y.born=x.2.2->eB E (f x).1 (f' y).key/\eB E (f x).2.1 (f' y).val/\(f' y).born=(f x).2.2):
  ∀(xs:List (V×V×Nat)) (ys:List MapEntry) (i:Nat),kM E xs ys->kM E (iO xs i f) (ys.modify i f')
 | [],_,i,r=>by simp only[kM]at r;subst r;simp[iO,kM]
 |x::xs,_,i,r=>by
  obtain⟨y,ys,a,b,c,rs,rfl⟩:=r;cases i with
  |zero=>obtain⟨p,q,s⟩:=hf x y a b c;exact⟨f' y,ys,p,q,s,rs,by simp⟩
  |succ i=>exact⟨y,_,a,b,c,pc hf xs ys i rs,by simp⟩
theorem wM:∀(xs:List (V×V×Nat)) (ys:List MapEntry) (x:V×V×Nat) (y:MapEntry),kM E xs ys->eB E x.1 y.key->eB E x.2.1 y.val->y.born=x.2.2->kM E (xs++[x]) (ys++[y])
 | [],_,x,y,r,a,b,c=>by simp only[kM]at r;subst r;exact⟨y,[],a,b,c,rfl,rfl⟩
 |z::zs,_,x,y,r,a,b,c=>by
  obtain⟨y0,ys,a0,b0,c0,rs,rfl⟩:=r;exact⟨y0,_,a0,b0,c0,wM zs ys x y rs a b c,rfl⟩
theorem x7{m b fg clock':Nat}{O y8:List (V×V×Nat)}{fS ug:Array MapEntry}(g:Good E h w)(gX:m<gy)(K:h.get m=some (.map O fg))(hi:E.ι m=some (b,0))(Y:w.heap[b]? =some (.map fS fg))
  (Br:kM E y8 ug.toList):jf E h w E (h.set m (some (.map y8 clock'))) { w with heap:=w.heap.setIfInBounds b (.map ug clock') }:=by
 have eY:b<w.heap.size:=(aU.1 Y).1;refine jf.write g gX ⟨_,K,rfl⟩ hi (by simp) rfl rfl rfl (fun x J=>?_) ⟨rfl,ug,?_,Br⟩
 . simp[Ne.symm J]
 . simp[eY]
section
variable{m b fg clock':Nat}
theorem x8{kk:Option IntKind}{O y8:ae}{fS ug:Array MapEntry}(g:Good E h w)(gX:m<gy)(K:h.get m=some (.gM kk O))(hi:E.ι m=some (b,0))(Y:w.heap[b]? =some (.map fS fg))
  (Br:kg E.φ kk y8 ug.toList clock'):jf E h w E (h.set m (some (.gM kk y8))) { w with heap:=w.heap.setIfInBounds b (.map ug clock') }:=by
 have eY:b<w.heap.size:=(aU.1 Y).1;refine jf.write g gX ⟨_,K,rfl⟩ hi (by simp) rfl rfl rfl (fun x J=>?_) ⟨rfl,ug,clock',?_,Br⟩
 . simp[Ne.symm J]
 . simp[eY]
theorem Cm{kd:TypeDesc}{a b:V}{a' b':Value}(ra:eB E a a')(rb:eB E b b')(e:xH kd a b=some true):(Instr.keyThatStays b' a').run P w= .ok a' w:=by
 have:Instr.sameBits 10000 b' a'=true:=by
  unfold xH at e;split at e
  . simp only[eB]at ra rb;subst ra;subst rb;split at e
    . rename_i U;simp only[aq,cm]at e;simp[Instr.sameBits,U,e]
    . cases e
  . simp only[eB]at ra rb;subst ra;subst rb;simp only[aq]at e;simp only[Instr.sameBits];rw[kD]at e;have hab:_=_:=eq_of_beq e;subst hab;rw[rO,kD];simp
  . cases e
 simp[Instr.keyThatStays,this]
theorem x9{t:TypeId}{m k v:V}{m' k' v':Value}{r:s'}(g:Good E h w)(rm:eB E m m')(rk:eB E k k')(rv:eB E v v')(e:sP P t h n m k v=some r):
  jX P E h n w (do Instr.mapUpdate t m' k' v';pure .skip) r:=by
 unfold sP at e;split at e
 . rename_i kt et m hu;split at e
   . rename_i kd O fg U K;obtain⟨b,fS,hi,Y,Br⟩:=x4 g K;obtain⟨b',jI,rfl⟩:=rm;rw[hi]at jI;cases jI;have x6:=fM (P:=P) Y (by intro _ _ _ q;cases q);have sY:∀o',(setObj b o').run P w= .ok () { w with heap:=w.heap.setIfInBounds b o' }:=fun o'=>kx (P:=P) Y (by intro _ _ _ q;cases q);split at e
     . rename_i hq;obtain⟨Jr,gX⟩:=hq;have Js:=iZ (P:=P) (w:=w) (b:=false) U rk Jr;cases hf:uB kd k O 0 with
       |none=>simp[hf]at e
       |some q=>
        have hr:=vx rk O fS.toList 0 q Br hf;cases q with
        |none=>
         simp only[hf,aq]at e;subst e;have Bq:=x7 (clock':=fg+1) (y8:=O++[(k,v,fg)]) (ug:=fS.push { key:=k',val:=v',born:=fg }) g gX K hi Y (by
          rw[Array.toList_push];exact wM O fS.toList (k,v,fg) { key:=k',val:=v',born:=fg } Br rk rv rfl)
         refine⟨E,_,undef,.inr ⟨?_,rfl⟩,⟨[],rfl,rfl⟩,Bq,fun _ _=>rfl,.inl ⟨rfl,rfl⟩⟩;simp only[Instr.mapUpdate,Sem.run_bind,eo hu,Result.andThen_ok,x6,Js,iq U hr,sY,Sem.run_pure]
        |some q=>
         obtain⟨j,e0⟩:=q;simp only[hf,aq]at e;subst e;obtain⟨e',a1,a2,a3,a4,a5,a6,a7,a8⟩:=hr;simp only[dr]at a2 a3;have O2:((fS[j]?).map (·.key)).getD k'=e'.key:=by rw[<- bP,a3];rfl
         have vt:=Cm (P:=P) (w:=w) rk a5 a4;have Bq:=x7 (clock':=fg) (y8:=iO O j fun e=>(k,v,e.2.2)) (ug:=fS.modify j fun e=>{ e with key:=k',val:=v' }) g gX K hi Y (by
          rw[Array.toList_modify];exact pc (f:=fun e=>(k,v,e.2.2)) (f':=fun e=>{ e with key:=k',val:=v' }) (fun x y p q s=>⟨rk,rv,s⟩) O fS.toList j Br)
         refine⟨E,_,undef,.inr ⟨?_,rfl⟩,⟨[],rfl,rfl⟩,Bq,fun _ _=>rfl,.inl ⟨rfl,rfl⟩⟩;simp only[Instr.mapUpdate,Sem.run_bind,eo hu,Result.andThen_ok,x6,Js,iq U a8,O2,vt,sY,Sem.run_pure]
     . cases e
   . rename_i kd kk O U K;split at e
     . rename_i kq vq Fz hvq;split at e
       . rename_i Y;simp only[ay,aS]at Y;obtain⟨hd,HM,gX⟩:=Y;obtain rfl:=eU e;obtain⟨b,fS,fg,hi,rR,hr⟩:=x5 g K;obtain⟨b',jI,rfl⟩:=rm;rw[hi]at jI;cases jI;have x6:=fM (P:=P) rR (by intro _ _ _ q;cases q);have sY:∀o',(setObj b o').run P w= .ok () { w with heap:=w.heap.setIfInBounds b o' }:=fun o'=>kx (P:=P) rR (by intro _ _ _ q;cases q);have Jr:=xZ Fz hd HM;have Js:=iZ (P:=P) (w:=w) (b:=false) U rk Jr;rcases hr.Cl hd HM (pD Fz rk) (xM hvq rv).1 with⟨q1,q2⟩|⟨j,e',q1,q2,q3,q4⟩
         . refine⟨E,_,undef,.inr ⟨?_,rfl⟩,⟨[],rfl,rfl⟩,x8 g gX K hi rR q2,fun _ _=>rfl,.inl ⟨rfl,rfl⟩⟩;simp only[Instr.mapUpdate,Sem.run_bind,eo hu,Result.andThen_ok,x6,Js,iq U q1,sY,Sem.run_pure]
         . have O2:((fS[j]?).map (·.key)).getD k'=e'.key:=by rw[q2];rfl
           have vt:(Instr.keyThatStays e'.key k').run P w= .ok k' w:=by
            have r1:=pD Fz rk;have:e'.key=k':=by
             cases kq<;>first|(simp only[lg]at q3 r1;rw[q3,r1])|(unfold keyOf at Fz;split at Fz<;>cases Fz)
            rw[this];refine Cm rk rk (kd:=kd) ?_;have auj:=(jt HM HM).2 rfl;unfold keyOf at Fz;split at Fz<;>first|cases Fz|skip
            . cases kd<;>cases kk<;>simp only[lz,gF,aM]at hd HM;simp[xH]
            . cases kd<;>cases kk<;>simp only[lz,gF,aM]at hd HM;simp only[xH,kD];simp
           refine⟨E,_,undef,.inr ⟨?_,rfl⟩,⟨[],rfl,rfl⟩,x8 g gX K hi rR q4,fun _ _=>rfl,.inl ⟨rfl,rfl⟩⟩;simp only[Instr.mapUpdate,Sem.run_bind,eo hu,Result.andThen_ok,x6,Js,iq U q1,O2,vt,sY,Sem.run_pure]
       . cases e
     . cases e
   . cases e
 . cases e
theorem MZ{eP:Array TypeId}{ty:TypeId}{args:ag}{dQ:List Value}{r:s'}(g:Good E h w)(ra:eC E args dQ)(ha:eP.size=2)(e:Fg P eP args h n=some r):
  jX P E h n w (do pure (.value (<- Builtin.delete_ eP ty dQ.toArray))) r:=by
 unfold Fg at e;split at e
 . rename_i t m k h1;obtain⟨m',_,rm,⟨k',_,rk,lX,rfl⟩,rfl⟩:=ra;simp only[eC]at lX;subst lX;split at e
   . rename_i kt et hu;split at e
     . rename_i kd kk O kq U K Fz;split at e
       . rename_i Y;simp only[ay,aS]at Y;obtain⟨hd,HM,gX⟩:=Y;obtain rfl:=eU e;obtain⟨b,fS,fg,hi,rR,hr⟩:=x5 g K;obtain⟨b',jI,rfl⟩:=rm;rw[hi]at jI;cases jI;have x6:=fM (P:=P) rR (by intro _ _ _ q;cases q);have sY:∀o',(setObj b o').run P w= .ok () { w with heap:=w.heap.setIfInBounds b o' }:=fun o'=>kx (P:=P) rR (by intro _ _ _ q;cases q);have Jr:=xZ Fz hd HM;have Js:=iZ (P:=P) (w:=w) (b:=fS.isEmpty) U rk Jr;rcases hr.del hd HM (pD Fz rk)with⟨q1,q2⟩|⟨j,e',q1,q2⟩
         . refine⟨E,_,.tuple #[],.inl ?_,⟨[],rfl,rfl⟩,x8 g gX K hi rR q2,fun _ _=>rfl,.inl ⟨rfl,rfl⟩⟩;simp[Builtin.delete_,h1,eo hu,x6,Js,iq U q1,sY]
         . refine⟨E,_,.tuple #[],.inl ?_,⟨[],rfl,rfl⟩,x8 g gX K hi rR q2,fun _ _=>rfl,.inl ⟨rfl,rfl⟩⟩;simp[Builtin.delete_,h1,eo hu,x6,Js,iq U q1,sY]
       . cases e
     . cases e
   . cases e
 . cases e
theorem HN{m:Nat}{kk:Option IntKind}{O:ae}(g:Good E h w)(K:h.get m=some (.oI kk O)):
  ∃b fS,E.ι m=some (b,0)/\w.heap[b]? =some (.map fS O.length)/\lW E.φ kk O fS.toList:=by
 obtain⟨b,s,hi,hs,fS,h1,C⟩:=g.rel m _ K;subst hs;exact⟨b,fS,hi,h1,C⟩
theorem HO{kk:Option IntKind}{O y8:ae}{fS ug:Array MapEntry}(g:Good E h w)(gX:m<gy)(K:h.get m=some (.oI kk O))(hi:E.ι m=some (b,0))(Y:w.heap[b]? =some (.map fS fg))
  (N:clock'=y8.length) (Br:lW E.φ kk y8 ug.toList):jf E h w E (h.set m (some (.oI kk y8))) { w with heap:=w.heap.setIfInBounds b (.map ug clock') }:=by
 subst N;have eY:b<w.heap.size:=(aU.1 Y).1;refine jf.write g gX ⟨_,K,rfl⟩ hi (by simp) rfl rfl rfl (fun x J=>?_) ⟨rfl,ug,?_,Br⟩
 . simp[Ne.symm J]
 . simp[eY]
end
theorem lW.push{φ:Nat->Option (Array Value)}{kk:Option IntKind}{O:ae}{fS:Array MapEntry}{k v:D}{k' v':Value}(r:lW φ kk O fS.toList)(U:gF kk k=true)(hn:k∉O.map (·.1))(rk:lg φ k k')(rv:lg φ v v'):
  lW φ kk (O++[(k,v)]) (fS.push { key:=k',val:=v',born:=O.length }).toList:=by
 rw[Array.toList_push];refine⟨wL O fS.toList (k,v) _ r.row rk rv,?_,fun e he=>?_,?_⟩
 . rw[bM];exact List.nodup_append.2 ⟨r.keys,by simp,fun a ha b Y=>by simp at Y;subst Y;intro q;subst q;exact hn ha⟩
 . rcases bf.1 he with q|q
   . exact r.kind e q
   . rw[aG]at q;subst q;exact U
 . rw[bM,r.born,aH,cQ,List.range_succ];rfl
theorem wN{α:Type}(f:α->α):∀(l:List α) (i:Nat),(iO l i f).length=l.length/\∀x∈iO l i f,x∈l\/∃y∈l,x=f y
 | [],_=>⟨rfl,fun x J=>.inl J⟩
 |a::l,0=>⟨rfl,fun x J=>by
  simp only[iO,az]at J;rcases J with q|q
  . exact .inr ⟨a,by simp,q⟩
  . exact .inl (by simp[q])⟩
 |a::l,i+1=>by
  obtain⟨h1,C⟩:=wN f l i;refine⟨by simp only[iO,aR,h1],fun x J=>?_⟩;simp only[iO,az]at J;rcases J with q|q
  . exact .inl (by simp[q])
  . rcases C x q with q|⟨y,hy,q⟩
    . exact .inl (by simp[q])
    . exact .inr ⟨y,by simp[hy],q⟩
theorem uM(v:D):∀(l:ae) (i:Nat),(iO l i fun e=>(e.1,v)).map (·.1)=l.map (·.1)
 | [],_=>rfl
 |_::_,0=>rfl
 |a::l,i+1=>by simp only[iO,bQ,uM v l i]
theorem Es{φ:Nat->Option (Array Value)}{v:D}{v':Value}(rv:lg φ v v'):∀(l:ae) (O:List MapEntry) (i:Nat),kN φ l O->kN φ (iO l i fun e=>(e.1,v)) (O.modify i fun e=>{ e with val:=v' })
 | [],_,i,r=>by simp only[kN]at r;subst r;simp[kN,iO]
 |a::l,_,i,r=>by
  obtain⟨y,ys,r1,r2,rs,rfl⟩:=r;cases i with
  |zero=>exact⟨{ y with val:=v' },ys,r1,rv,rs,by simp⟩
  |succ i=>exact⟨y,_,r1,r2,Es rv l ys i rs,by simp⟩
theorem lW.val{φ:Nat->Option (Array Value)}{kk:Option IntKind}{O:ae}{fS:Array MapEntry}{v:D}{v':Value}(i:Nat)(r:lW φ kk O fS.toList)(rv:lg φ v v'):
  lW φ kk (iO O i fun e=>(e.1,v)) (fS.modify i fun e=>{ e with val:=v' }).toList:=by
 rw[Array.toList_modify];refine⟨Es rv O fS.toList i r.row,by rw[uM];exact r.keys,fun e he=>?_,?_⟩
 . have:e.1∈(iO O i fun e=>(e.1,v)).map (·.1):=bS.2 ⟨e,he,rfl⟩;rw[uM]at this;obtain⟨x,J,q⟩:=bS.1 this;rw[<- q];exact r.kind x J
 . rw[(wN _ O i).1,<- r.born];apply List.ext_getElem?;intro j;simp only[bC,List.getElem?_modify];by_cases O1:i=j
   . simp[O1];cases fS.toList[j]? <;>rfl
   . simp[O1]
theorem lW.at{φ:Nat->Option (Array Value)}{kk:Option IntKind}{O:ae}{fS:Array MapEntry}{b:Int}(r:lW φ kk O fS.toList)(h0:0<=b)(h1:b<O.length):fS.findIdx? (fun e=>(e.born:Int)==b)=some b.toNat:=by
 have q:=List.findIdx?_toArray (fun(e:MapEntry)=>(e.born:Int)==b) fS.toList;rw[Array.toArray_toList]at q;rw[q,bZ];have hl:=aI List.length r.born;rw[bG,List.length_range]at hl;have hg:∀(j:Nat) (hj:j<fS.toList.length),(fS.toList[j]).born=j:=fun j hj=>by
  have:=aI (fun l=>l[j]?) r.born;simp only[bC,au hj]at this;rw[au (by rw[List.length_range];omega),List.getElem_range]at this;simpa using this
 refine⟨S,?_,fun j hj=>?_⟩
 . rw[hg];simp;omega
 . rw[hg];simp;omega
theorem HP{t:TypeId}{m k:V}{m' k':Value}{r:s'}(g:Good E h w)(rm:eB E m m')(rk:eB E k k')(e:vo P t h n m k=some r):
  jX P E h n w (do pure (.value (<- Instr.mapEntry t m' k'))) r:=by
 unfold vo at e;split at e
 . rename_i kt et m hu;split at e
   . rename_i kd O fg z U K hz;obtain⟨b,fS,hi,Y,Br⟩:=x4 g K;obtain⟨b',jI,rfl⟩:=rm;rw[hi]at jI;cases jI;have x6:=fM (P:=P) Y (by intro _ _ _ q;cases q);have sY:∀o',(setObj b o').run P w= .ok () { w with heap:=w.heap.setIfInBounds b o' }:=fun o'=>kx (P:=P) Y (by intro _ _ _ q;cases q);obtain⟨z',DF,DG,_⟩:=lC (w:=w) E hz;split at e
     . rename_i hq;obtain⟨Jr,gX⟩:=hq;have Js:=iZ (P:=P) (w:=w) (b:=false) U rk Jr;cases hf:uB kd k O 0 with
       |none=>simp[hf]at e
       |some q=>
        have hr:=vx rk O fS.toList 0 q Br hf;cases q with
        |none=>
         simp only[hf,aq]at e;subst e;have Bq:=x7 (clock':=fg+1) (y8:=O++[(k,z,fg)]) (ug:=fS.push { key:=k',val:=z',born:=fg }) g gX K hi Y (by
          rw[Array.toList_push];exact wM O fS.toList (k,z,fg) { key:=k',val:=z',born:=fg } Br rk DG rfl)
         refine⟨E,_,.tuple #[z',.int .i64 fg],.inl ?_,⟨[z',.int .i64 fg],⟨z',_,DG,⟨.int .i64 fg,[],rfl,rfl,rfl⟩,rfl⟩,rfl⟩,Bq,fun _ _=>rfl,.inl ⟨rfl,rfl⟩⟩;simp only[Instr.mapEntry,Sem.run_bind,eo hu,Result.andThen_ok,x6,Js,iq U hr,DF,sY,Sem.run_pure,goInt]
        |some q=>
         obtain⟨j,e0⟩:=q;simp only[hf,aq]at e;subst e;obtain⟨e',a1,a2,a3,a4,a5,a6,a7,a8⟩:=hr;simp only[dr]at a2 a3;have O2:((fS[j]?).map (·.key)).getD k'=e'.key:=by rw[<- bP,a3];rfl
         have Lz:(Option.map (fun x=>(x.born:Int)) fS[j]?).getD 0=(e0.2.2:Int):=by rw[<- bP,a3];exact aI _ a7
         have vt:=Cm (P:=P) (w:=w) rk a5 a4;have Bq:=x7 (clock':=fg) (y8:=iO O j fun e=>(k,e.2.1,e.2.2)) (ug:=fS.modify j fun e=>{ e with key:=k' }) g gX K hi Y (by
          rw[Array.toList_modify];exact pc (f:=fun e=>(k,e.2.1,e.2.2)) (f':=fun e=>{ e with key:=k' }) (fun x y p q s=>⟨rk,q,s⟩) O fS.toList j Br)
         refine⟨E,_,.tuple #[e'.val,.int .i64 e0.2.2],.inl ?_,⟨[e'.val,.int .i64 e0.2.2],⟨e'.val,_,a6,⟨.int .i64 e0.2.2,[],rfl,rfl,rfl⟩,rfl⟩,rfl⟩,Bq,fun _ _=>rfl,.inl ⟨rfl,rfl⟩⟩;simp only[Instr.mapEntry,Sem.run_bind,eo hu,Result.andThen_ok,x6,Js,iq U a8,O2,Lz,vt,sY,Sem.run_pure,goInt]
     . cases e
   . rename_i kd kk O z U K hz;split at e
     case h_2=>cases e
     rename_i kq z0 Fz Lw;split at e
     case h_2=>cases e
     rename_i hL;split at e
     case isFalse=>cases e
     rename_i Y;simp only[ay,aS]at Y;obtain⟨hd,HM,gX⟩:=Y;obtain rfl:=eU e;obtain⟨b,fS,hi,rR,hr⟩:=HN g K;obtain⟨b',jI,rfl⟩:=rm;rw[hi]at jI;cases jI;have x6:=fM (P:=P) rR (by intro _ _ _ q;cases q);have sY:∀o',(setObj b o').run P w= .ok () { w with heap:=w.heap.setIfInBounds b o' }:=fun o'=>kx (P:=P) rR (by intro _ _ _ q;cases q);obtain⟨z',DF,DG,_⟩:=lC (w:=w) E hz;have Jr:=xZ Fz hd HM;have Js:=iZ (P:=P) (w:=w) (b:=false) U rk Jr;have hf:=rS hd HM (pD Fz rk) O fS.toList 0 hr.row hr.kind;rw[hL]at hf;obtain⟨q1,_,_,q4⟩:=hf;have Bq:=HO (clock':=O.length+1) (y8:=O++[(kq,z0)]) (ug:=fS.push { key:=k',val:=z',born:=O.length }) g gX K hi rR (by simp) (hr.push HM q4 (pD Fz rk) (xM Lw DG).1);refine⟨E,_,.tuple #[z',.int .i64 O.length],.inl ?_,⟨[z',.int .i64 O.length],⟨z',_,DG,⟨.int .i64 O.length,[],rfl,rfl,rfl⟩,rfl⟩,rfl⟩,Bq,fun _ _=>rfl,.inl ⟨rfl,rfl⟩⟩;simp only[Instr.mapEntry,Sem.run_bind,eo hu,Result.andThen_ok,x6,Js,iq U q1,DF,sY,Sem.run_pure,goInt]
   . cases e
 . cases e
section
variable{eP:Array TypeId}{ty:TypeId}
theorem FA{m o l jQ z:Nat}{dQ:List Value}(g:Good E h w)(ra:eC E [.eZ (some (m,o)) l jQ z] dQ)(N:0<jQ):
  jX P E h n w (do pure (.value (<- Builtin.unsafeSliceData_ eP ty dQ.toArray))) (.val (.ptr (some (m,o))) h n):=by
 obtain⟨x',_,⟨b,s,o',gP,h1,C,h3,h4,h5,rfl⟩,lX,rfl⟩:=ra;simp only[eC]at lX;subst lX;have:=C N;subst this;refine eL g (v':=.pointer (some ⟨b,s+o,none⟩)) ?_ ⟨b,s,h1,rfl⟩;rw[Sem.run_bind,Lib.run_unsafeSliceData_row w eP ty ⟨b,s+o,none⟩ l gP S];rfl
theorem Bb{pt e:TypeId}{m:Nat}{l:Int}{An:Bool}{t:aa}{dQ:List Value}(g:Good E h w)(ra:eC E [.ptr (some (m,0)),.int .i64 l] dQ)(VJ:eP[0]? =some pt)(ha:eP.size=2)(hp:P.underlying pt=some (.pointer e))
  (K:h.get m=some (.vM e An t)) (hl:l=t.length) (h0:0<t.length) (hce:P.cellsOf e=1) (gX:m<gy) (h63:t.length<=wD):
  jX P E h n w (do pure (.value (<- Builtin.unsafeString_ eP ty dQ.toArray))) (.val (.str t) (h.set m (some (.vM e true t))) n):=by
 obtain⟨x',_,⟨b,s,h1,rfl⟩,⟨y',_,r2,lX,rfl⟩,rfl⟩:=ra;simp only[eC]at lX;subst lX;simp only[eB]at r2;subst r2;obtain⟨b',R,oF,c,fz,xs,rR,hs,mP,⟨DQ,JT⟩,Ch,ot⟩:=g.rel m _ K;rw[h1]at oF;cases oF;subst hs;have JS:xs.length=t.length:=by rw[<- Ch];simp[nG]
 have qu:t.length<=c.size:=by
  have C:=ot (t.length-1) (xs[t.length-1]'(by omega)) (au S);have:=(aU.1 C).1;omega
 have ny:eP=#[pt,eP[1]'(by omega)]:=by
  apply Array.ext
  . simpa using ha
  . intro i q1 q2;have:i=0\/i=1:=by simp at q2;omega
    rcases this with rfl|rfl
    . rw[aY q1]at VJ;simpa using VJ
    . rfl
 have hlb:∀(l:List Int) (k:Nat) (Ek:ByteArray),(∀(j:Nat) (x:Int),l[j]? =some x->c[k+j]? =some (.int .u8 x))->(loadBytes ⟨b,k,none⟩ Ek l.length).run P w= .ok ⟨Ek.data++(nG l).toArray⟩ w:=by
  intro l
  induction l with
  |nil=>intro k Ek _;simp[loadBytes,nG]
  |cons x l ih=>
   intro k Ek hh;have e0:=hh 0 x rfl;simp only[aR,loadBytes,Sem.run_bind,run_load,Addr.ji];rw[show(⟨b,k,none⟩:Addr)=⟨b,k+0,none⟩from rfl,mX rR,e0];simp only[Result.andThen_ok];rw[ih (k+0+1) _ (fun j y hy=>by have:=hh (j+1) y (by simpa using hy);rw[<- this];congr 1;omega)];congr 1;simp[nG,ByteArray.push]
 have ace:=hlb xs 0 .empty (fun j x J=>by rw[bB];exact ot j x J);rw[JS,Ch]at ace;have hsh:w.shape? b=some (e,c.size):=by simp[World.shape?,rR]
 have acf:=Lib.liesAt_bytes (P:=P) hce (c.size/P.cellsOf e) t.length (by rw[hce];simpa using qu);have DD:t.length≠0:=by omega
 have aiV:¬(9223372036854775807:Int)<(t.length:Int):=by unfold wD at h63;omega
 have aiW:IntKind.i64.max=9223372036854775807:=rfl;have aiX:¬(t.length:Int)<0:=by omega
 have hun:=hp;have gx:(Builtin.unsafeString_ eP ty #[.pointer (some ⟨b,0,none⟩),.int .i64 t.length]).run P w= .ok (.string ⟨t.toArray⟩) (w.freeze ⟨b,0,none⟩ t.length):=by
  rw[ny];have aiY:Builtin.unsafeString_ #[pt,eP[1]'(by omega)] ty #[.pointer (some ⟨b,0,none⟩),.int .i64 t.length]=
   (do
    let n <- asInt (.int .i64 t.length)
    if n<0 then runtimePanic (.error "unsafe.String: len out of range")
    if n>IntKind.i64.max then unsupported (.unsafePointer "String: a length above the largest int")
    if n=0 then pure (.string .empty)
    else if <- variablesAt ⟨b,0,none⟩ (<- elemOf pt) n.toNat then do
     let s <- loadBytes ⟨b,0,none⟩ .empty n.toNat
     freeze ⟨b,0,none⟩ n.toNat
     pure (.string s)
    else unsupported (.unsafePointer "String: not so many bytes at ptr")):=rfl
  rw[aiY];simp[asInt,asIntOf,aiW,aiV,aiX,DD,variablesAt,hsh,elemOf,eo hp,acf,ace]
  done
 have h00:(0:Nat)+0=0:=rfl;refine⟨E,w.freeze ⟨b,0,none⟩ t.length,.string ⟨t.toArray⟩,.inl ?_,rfl,?_,fun _ _=>rfl,.inl ⟨rfl,rfl⟩⟩
 . rw[Sem.run_bind,h00,hl];rw[gx];rfl
 . have Fp:ff h m:=⟨_,K,rfl⟩;have hbs:b<w.heap.size:=(aU.1 rR).1;refine jf.write g gX Fp h1 (by unfold World.freeze;rw[aA DD];simp) (by unfold World.freeze;rw[aA DD]) (by unfold World.freeze;rw[aA DD]) (by unfold World.freeze;rw[aA DD]) (fun x J=>by unfold World.freeze;rw[aA DD];simp only[Array.getElem?_modify];rw[aA (Ne.symm J)]) ?_;refine⟨c,(if fz.1==fz.2 then(0,0+t.length)else(min fz.1 0,max fz.2 (0+t.length))),xs,by unfold World.freeze;rw[aA DD];simp[Array.getElem?_modify,rR],rfl,mP,⟨.inr ?_,fun q=>by simp at q⟩,Ch,ot⟩;split
   . simp
   . rename_i q;have:¬fz.1=fz.2:=by simpa using q
     simp only[bB];omega
end
theorem Cn{b:Int}:∀(xs:List (V×V×Nat)) (ys:List MapEntry) (i j:Nat),kM E xs ys->zh b xs i=some j->i<=j/\ys.findIdx? (fun e=>(e.born:Int)==b)=some (j-i)
 | [],_,i,j,r,e=>by simp[zh]at e
 |x::xs,_,i,j,r,e=>by
  obtain⟨y,ys,_,_,c,rs,rfl⟩:=r;simp only[zh]at e;split at e
  . rename_i Y;obtain rfl:=eU e;refine⟨aK _,?_⟩;rw[List.findIdx?_cons,aD (by rw[c];exact Y)];simp
  . rename_i Y;obtain⟨h1,C⟩:=Cn xs ys (i+1) j rs e;refine⟨S,?_⟩;rw[List.findIdx?_cons,aA (by rw[c];exact Y),C];simp;omega
section
variable{t:TypeId}{h':I es}{x:V}{n':Nat}{x':Value}{r:s'}
theorem DW{m s v:V}{m' R v':Value}{r:s'}(g:Good E h w)(rm:eB E m m')(rs:eB E s R)(rv:eB E v v')(e:qA h n m s v=some r):
  jX P E h n w (do Instr.entryStore t m' R v';pure .skip) r:=by
 unfold qA at e;split at e
 . rename_i m k b0;simp only[eB]at rs;subst rs;split at e
   . rename_i O fg K;obtain⟨b,fS,hi,Y,Br⟩:=x4 g K;obtain⟨b',jI,rfl⟩:=rm;rw[hi]at jI;cases jI;have x6:=fM (P:=P) Y (by intro _ _ _ q;cases q);have sY:∀o',(setObj b o').run P w= .ok () { w with heap:=w.heap.setIfInBounds b o' }:=fun o'=>kx (P:=P) Y (by intro _ _ _ q;cases q);split at e
     . rename_i gX;cases hf:zh b0 O 0 with
       |none=>simp[hf]at e
       |some j=>
        simp only[hf,aq]at e;subst e;obtain⟨_,C⟩:=Cn O fS.toList 0 j Br hf;have h3:fS.findIdx? (fun e=>(e.born:Int)==b0)=some j:=by
         have q:=List.findIdx?_toArray (fun(e:MapEntry)=>(e.born:Int)==b0) fS.toList;rw[Array.toArray_toList]at q;rw[q];simpa using C
        have Bq:=x7 (clock':=fg) (y8:=iO O j fun e=>(e.1,v,e.2.2)) (ug:=fS.modify j fun e=>{ e with val:=v' }) g gX K hi Y (by
         rw[Array.toList_modify];exact pc (f:=fun e=>(e.1,v,e.2.2)) (f':=fun e=>{ e with val:=v' }) (fun x y p q s=>⟨p,rv,s⟩) O fS.toList j Br)
        refine⟨E,_,undef,.inr ⟨?_,rfl⟩,⟨[],rfl,rfl⟩,Bq,fun _ _=>rfl,.inl ⟨rfl,rfl⟩⟩;simp only[Instr.entryStore,Sem.run_bind,x6,Result.andThen_ok,asInt,asIntOf,Sem.run_pure,h3,sY]
     . cases e
   . rename_i kk O K;split at e
     case h_2=>cases e
     rename_i v0 O3;split at e
     case isFalse=>cases e
     rename_i hq;obtain⟨gX,hb0,Lx⟩:=hq;obtain rfl:=eU e;obtain⟨b,fS,hi,rR,hr⟩:=HN g K;obtain⟨b',jI,rfl⟩:=rm;rw[hi]at jI;cases jI;have x6:=fM (P:=P) rR (by intro _ _ _ q;cases q);have sY:∀o',(setObj b o').run P w= .ok () { w with heap:=w.heap.setIfInBounds b o' }:=fun o'=>kx (P:=P) rR (by intro _ _ _ q;cases q);have h3:=hr.at hb0 Lx;have Bq:=HO (clock':=O.length) (y8:=iO O b0.toNat fun e=>(e.1,v0)) (ug:=fS.modify b0.toNat fun e=>{ e with val:=v' }) g gX K hi rR (wN _ O _).1.symm (hr.val _ (xM O3 rv).1);refine⟨E,_,undef,.inr ⟨?_,rfl⟩,⟨[],rfl,rfl⟩,Bq,fun _ _=>rfl,.inl ⟨rfl,rfl⟩⟩;simp only[Instr.entryStore,Sem.run_bind,x6,Result.andThen_ok,asInt,asIntOf,Sem.run_pure,h3,sY]
   . cases e
 . cases e
theorem Ay{s:Sem Next}{o:es}{ob:Obj}{v:V}{v':Value}(g:Good E h w)(hn:E.ι n=none)(e:newObj h n o=some (h',n'))
  (ho:∀E1 w1,w1.heap[w.heap.size]? =some ob->nJ E1 w1 w.heap.size 0 o) (hr:s.run P w= .ok (.value v') (w.alloc ob)) (hv:eB (E.put n w.heap.size 0 (ki ob)) v v'):jX P E h n w s (.val v h' n'):=by
 obtain⟨gX,rfl,rfl⟩:=kS e;exact⟨_,_,v',.inl hr,hv,jf.alloc g hn gX (ho _ _ heap_alloc_new),fun m K=>Env.iy K,.inr rfl⟩
theorem JV(g:Good E h w)(hn:E.ι n=none)(e:newObj h n (.map [] 0)=some (h',n')):
  jX P E h n w (do pure (.value (<- Instr.makeMap t none))) (.val (.map (some n)) h' n'):=by
 refine Ay (ob:=.map #[] 0) (v':=.map (some w.heap.size)) g hn e (fun E1 w1 q=>⟨rfl,#[],q,by simp[kM]⟩) ?_ ⟨w.heap.size,Env.ga,rfl⟩;simp[Instr.makeMap]
theorem O4(g:Good E h w)(hn:E.ι n=none)(rx:eB E x x')(e:B0 P t x h n=some r):
  jX P E h n w (do pure (.value (<- Instr.range t x'))) r:=by
 unfold B0 at e;split at e
 . rename_i s hu;simp only[eB]at rx;subst rx;cases ho:newObj h n (.nB s 0)with
   |none=>simp[ho]at e
   |some p=>
    obtain⟨h',n'⟩:=p;simp only[ho,aq]at e;subst e;refine Ay (ob:=.stringIter ⟨s.toArray⟩ 0) (v':=.pointer (some ⟨w.heap.size,0,none⟩)) g hn ho (fun E1 w1 q=>⟨rfl,q⟩) ?_ ⟨w.heap.size,0,Env.ga,by simp⟩;simp[Instr.range,eo hu]
 . cases e
theorem S3{b:Bool}{t:TypeId}{x':Value}{r:s'}(g:Good E h w)(rx:eB E x x')(e:OC x b h n=some r):
  jX P E h n w (do pure (.value (<- Instr.next x' b t))) r:=by
 unfold OC at e;split at e
 . rename_i m;obtain⟨b0,s0,hi,rfl⟩:=rx;split at e
   . rename_i s pos K;obtain⟨b1,s1,hi1,oV,Y⟩:=g.rel m _ K;rw[hi]at hi1;cases hi1;subst oV;have x6:=fM (P:=P) Y (by intro _ _ _ q;cases q);have sY:∀o',(setObj b0 o').run P w= .ok () { w with heap:=w.heap.setIfInBounds b0 o' }:=fun o'=>kx (P:=P) Y (by intro _ _ _ q;cases q);have eY:b0<w.heap.size:=(aU.1 Y).1;have mP:(⟨s.toArray⟩:ByteArray).size=s.length:=by show s.toArray.size=_;simp
     split at e
     . rename_i hp;simp only at e;split at e
       . rename_i gX;obtain rfl:=eU e;have Bq:jf E h w E (h.set m (some (.nB s (pos+(Utf8.decode ⟨s.toArray⟩ pos).2)))) { w with heap:=w.heap.setIfInBounds b0 (.stringIter ⟨s.toArray⟩ (pos+(Utf8.decode ⟨s.toArray⟩ pos).2)) }:=by
          refine jf.write g gX ⟨_,K,rfl⟩ hi (by simp) rfl rfl rfl (fun x J=>?_) ⟨rfl,?_⟩
          . simp[Ne.symm J]
          . simp[eY]
         refine⟨E,_,.tuple #[.bool true,.int .i64 pos,.int .i32 (Utf8.decode ⟨s.toArray⟩ pos).1],.inl ?_,⟨[.bool true,.int .i64 pos,.int .i32 (Utf8.decode ⟨s.toArray⟩ pos).1],⟨_,_,rfl,⟨_,_,rfl,⟨_,_,rfl,rfl,rfl⟩,rfl⟩,rfl⟩,rfl⟩,Bq,fun _ _=>rfl,.inl ⟨rfl,rfl⟩⟩;simp[Instr.next,x6,mP,hp,sY,goInt]
       . cases e
     . rename_i hp;obtain rfl:=eU e;refine eL g (v':=.tuple #[.bool false]) ?_ ⟨[.bool false],⟨_,_,rfl,rfl,rfl⟩,rfl⟩;simp[Instr.next,x6,mP,hp]
   . cases e
 . cases e
end
end
section
variable{P:Program}{E:Env}{h:I es}{n:Nat}{w:World}{T:I V}{ρ:Operand->Value}
section
variable{eP:Array TypeId}{ty:TypeId}
theorem HQ{l jQ z:Nat}{dQ:List Value}(g:Good E h w)(ra:eC E [.eZ none l jQ z] dQ):
  jX P E h n w (do pure (.value (<- Builtin.unsafeSliceData_ eP ty dQ.toArray))) (.val (.ptr none) h n):=by
 obtain⟨x',_,⟨_,_,rfl⟩,lX,rfl⟩:=ra;simp only[eC]at lX;subst lX;refine eL g (v':=.pointer none) ?_ rfl;rw[Sem.run_bind,Lib.run_unsafeSliceData_nil];rfl
theorem wO{pt:TypeId}{dQ:List Value}(g:Good E h w)(ra:eC E [.ptr none,.int .i64 0] dQ)(VJ:eP[0]? =some pt)(ha:eP.size=2):
  jX P E h n w (do pure (.value (<- Builtin.unsafeString_ eP ty dQ.toArray))) (.val (.str []) h n):=by
 obtain⟨x',_,r1,⟨y',_,r2,lX,rfl⟩,rfl⟩:=ra;simp only[eC]at lX;subst lX;simp only[eB]at r1 r2;subst r1;subst r2;have ny:eP=#[pt,eP[1]'(by omega)]:=by
  apply Array.ext
  . simp[ha]
  . intro i h1 C;have:i=0\/i=1:=by omega
    rcases this with rfl|rfl
    . have:=(aU.1 VJ).2;simpa using this
    . rfl
 refine eL g (v':=.string ⟨#[]⟩) ?_ rfl;rw[Sem.run_bind,ny];have:=Lib.run_unsafeString_none (P:=P) w pt (eP[1]'(by omega)) ty none;simp only[List.toArray]at this ⊢;rw[this];rfl
end
def nf(E:Env)(T:I V)(ρ:Operand->Value)(x:Operand):Prop:=∀v,jc T x=some v->eB E v (ρ x)
theorem uN:∀(xs:List Operand) (vs:ag),(∀x∈xs,nf E T ρ x)->uF T xs=some vs->eC E vs (xs.map ρ)
 | [],vs,_,e=>by simp only[uF,aq]at e;subst e;rfl
 |x::xs,vs,hr,e=>by
  simp only[uF]at e;cases h1:jc T x with
  |none=>simp[h1]at e
  |some v=>cases C:uF T xs with
   |none=>simp[h1,C]at e
   |some r=>
    simp only[h1,C,aq]at e;subst e;exact⟨ρ x,xs.map ρ,hr x (by simp) v h1,uN xs r (fun y hy=>hr y (by simp[hy])) C,rfl⟩
theorem sZ:∀(xs:List (Nat×Operand)) (vs:List (Nat×V)),(∀x∈xs.map (·.2),nf E T ρ x)->pM T xs=some vs->As E vs (xs.map fun x=>(x.1,ρ x.2))
 | [],vs,_,e=>by simp only[pM,aq]at e;subst e;rfl
 |(i,x)::xs,vs,hr,e=>by
  simp only[pM]at e;cases h1:jc T x with
  |none=>simp[h1]at e
  |some v=>cases C:pM T xs with
   |none=>simp[h1,C]at e
   |some r=>
    simp only[h1,C,aq]at e;subst e;exact⟨(i,ρ x),_,rfl,hr x (by simp) v h1,sZ xs r (fun y hy=>hr y (by simp at hy ⊢;exact .inr hy)) C,rfl⟩
theorem wP{x:Option Operand}{v:Option V}(hr:∀y,x=some y->nf E T ρ y)(e:mA T x=some v):nS E v (x.map ρ):=by
 cases x with
 |none=>simp only[mA,aq]at e;subst e;rfl
 |some x=>
  simp only[mA]at e;cases h1:jc T x with
  |none=>simp[h1]at e
  |some y=>simp only[h1,aq]at e;subst e;exact⟨ρ x,hr x rfl y h1,rfl⟩
theorem gr{v:Option V}{r:s'}(e:kB h n v=some r):∃x,v=some x/\r= .val x h n:=by
 cases v with
 |none=>simp[kB]at e
 |some x=>simp only[kB,aq]at e;exact⟨x,rfl,e.symm⟩
theorem s8{f:FuncId}{args:Array Value}(N:callee P f=true):(callFunc f args).run P w= .ok (.enter f args) w:=by
 unfold callee at N;split at N
 . rename_i fn hf;simp only[ay,bne_iff_ne,ne_eq]at N;obtain⟨h1,C⟩:=N;have h3:fn.body.isNone=false:=by cases Y:fn.body<;>simp_all
   have h4:(fn.name == "runtime.NumGoroutine")=false:=by simpa using C
   simp only[callFunc,Sem.run_bind,run_program,Result.andThen_ok,hf,h4,h3,aM,cA];rfl
 . cases N
section
variable{c:Call}{ty:TypeId}{r:s'}
theorem JW(g:Good E h w)(hn:E.ι n=none)(hr:∀x∈c.operands,nf E T ρ x)(e:v8 P T c h n=some r):
  jX P E h n w (do let d <- resolve ρ c ty;invoke d.target d.args) r:=by
 unfold v8 at e;split at e
 . rename_i args ha;have mG:=uN (E:=E) (ρ:=ρ) c.args.toList args (fun x J=>hr x (by simp[Call.operands];exact .inr (by simpa using J))) ha;have Co:c.args.map ρ=(c.args.toList.map ρ).toArray:=by apply Array.ext';simp
   split at e
   . rename_i b N;unfold lA at e;split at e
     . split at e
       . rename_i C;have:=MT (P:=P) (ty:=ty) g hn mG e C;simpa[resolve,N,invoke,builtin,Co]using this
       . cases e
     . obtain⟨v,h1,rfl⟩:=gr e;have:=Xd (P:=P) (n:=n) (ty:=ty) g mG h1;simpa[resolve,N,invoke,builtin,Co]using this
     . split at e
       . obtain⟨v,h1,rfl⟩:=gr e;have:=Xe (P:=P) (n:=n) (eP:=c.argTypes) (ty:=ty) g mG h1;simpa[resolve,N,invoke,builtin,Co]using this
       . cases e
     . split at e
       . obtain⟨v,h1,rfl⟩:=gr e;have:=Xf (P:=P) (n:=n) (eP:=c.argTypes) (ty:=ty) g mG h1;simpa[resolve,N,invoke,builtin,Co]using this
       . cases e
     . split at e
       . rename_i t v;obtain rfl:=eU e;obtain⟨x',_,⟨y,ry,rfl⟩,lX,hl⟩:=mG;simp only[eC]at lX;subst lX;have h0:(c.args.map ρ).getD 0 .nilIface= .iface t y:=by rw[Co,hl];rfl
         refine⟨.iface t y,?_,y,ry,rfl⟩;simp only[resolve,N,pure_bind,invoke,builtin];rw[h0];rfl
       . cases e
     . obtain rfl:=eU e;show _=_;simp[resolve,N,invoke,builtin]
     . split at e
       . split at e
         . rename_i tQ;obtain rfl:=eU e;have:=FA (P:=P) (n:=n) (eP:=c.argTypes) (ty:=ty) g mG tQ;simpa[resolve,N,invoke,builtin,Co]using this
         . cases e
       . obtain rfl:=eU e;have:=HQ (P:=P) (n:=n) (eP:=c.argTypes) (ty:=ty) g mG;simpa[resolve,N,invoke,builtin,Co]using this
       . cases e
     . split at e
       . rename_i pt m l VJ;split at e
         . rename_i e0 el An s hp K;split at e
           . rename_i hq;obtain⟨⟨q1,q2⟩,⟨rfl,q3⟩,q4,q5,q6⟩:=hq;obtain rfl:=eU e;have:=Bb (P:=P) (n:=n) (eP:=c.argTypes) (ty:=ty) g mG VJ q5 hp K q1 q2 q3 q4 q6;simpa[resolve,N,invoke,builtin,Co]using this
           . cases e
         . cases e
       . rename_i pt l VJ;split at e
         . rename_i hq;obtain⟨q1,q5⟩:=hq;subst q1;obtain rfl:=eU e;have:=wO (P:=P) (n:=n) (eP:=c.argTypes) (ty:=ty) g mG VJ q5;simpa[resolve,N,invoke,builtin,Co]using this
         . cases e
       . cases e
     . split at e
       . rename_i C;have:=MZ (P:=P) (ty:=ty) g mG C e;simpa[resolve,N,invoke,builtin,Co]using this
       . cases e
     . cases e
   . cases e
   . rename_i f N;split at e
     . rename_i gf first captured hf
       split at e
       . rename_i Cp;obtain rfl:=eU e;obtain⟨f',fi,ca,Sx,r1,r2,hfe⟩:=hr f (by simp[Call.operands,N]) _ hf;simp only[Ap]at Sx;subst Sx;refine⟨fi++c.args.toList.map ρ++ca,iY (iY r1 mG) r2,.inl ⟨?_,Cp⟩⟩;have lK:=s8 (w:=w) (args:=(fi++c.args.toList.map ρ++ca).toArray) Cp;simp only[resolve,N,hfe,Deferred.ofValue,pure_bind,invoke];rw[<- lK];congr 2;apply Array.ext';simp
       . cases e
     . rename_i m hf;obtain⟨f',fi,ca,⟨l,s,jz,Sx⟩,r1,r2,hfe⟩:=hr f (by simp[Call.operands,N]) _ hf;subst Sx;simp only[eC]at r1 r2;subst r1;subst r2;split at e
       . split at e
         . obtain rfl:=eU e;refine⟨c.args.toList.map ρ,mG,.inr ⟨m,l,s,rfl,jz,?_⟩⟩;simp only[resolve,N,hfe,Deferred.ofValue,pure_bind,invoke,Co];simp
         . cases e
       . cases e
     . cases e
 . cases e
theorem HR(hr:∀x∈c.operands,nf E T ρ x)(e:B3 T c=some r):
  jX P E h n w (do pure (.defer (<- resolve ρ c ty))) r:=by
 unfold B3 at e;split at e
 . rename_i args ha;have mG:=uN (E:=E) (ρ:=ρ) c.args.toList args (fun x J=>hr x (by simp[Call.operands];exact .inr (by simpa using J))) ha;split at e
   . rename_i f N;split at e
     . rename_i gf first captured hf
       obtain rfl:=eU e;obtain⟨f',fi,ca,Sx,r1,r2,hfe⟩:=hr f (by simp[Call.operands,N]) _ hf;simp only[Ap]at Sx;subst Sx;refine⟨ca,fi++c.args.toList.map ρ,?_,r2,iY r1 mG⟩;simp only[resolve,N,hfe,Deferred.ofValue,pure_bind];show Result.ok _ w=_;congr 3;apply Array.ext';simp
     . cases e
   . cases e
 . cases e
end
set_option maxHeartbeats 1000000 in
theorem nT{o:Oper}{r:s'}(g:Good E h w)(hn:E.ι n=none)(hr:∀x∈o.op.operands,nf E T ρ x)(e:eA P o T h n=some r):jX P E h n w (execOp ρ o) r:=by
 obtain⟨dst,op,ty,pos,after,guard⟩:=o;simp only at hr;cases op<;>simp only[eA]at e<;>simp only[Op.operands]at hr<;>simp only[execOp]
 case move x=>
  obtain⟨v,h1,rfl⟩:=gr e;exact eL g rfl (hr x (by simp) v h1)
 case assign x=>
  obtain⟨v,h1,rfl⟩:=gr e;exact eL g rfl (hr x (by simp) v h1)
 case pick c x y=>
  split at e
  . rename_i N;obtain⟨v,h1,rfl⟩:=gr e;have rc:=hr c (by simp) _ N;simp only[eB]at rc;exact eL g (by simp[rc,asBool]) (hr x (by simp) v h1)
  . rename_i N;obtain⟨v,h1,rfl⟩:=gr e;have rc:=hr c (by simp) _ N;simp only[eB]at rc;exact eL g (by simp[rc,asBool]) (hr y (by simp) v h1)
  . cases e
 case alloc t=>
  split at e
  . rename_i z hz;split at e
    . rename_i h' n' ho;obtain rfl:=eU e;exact ON g hn hz ho
    . cases e
  . cases e
 case box t x=>
  split at e
  . rename_i v hv;split at e
    . rename_i h' n' ho;obtain rfl:=eU e;exact WW g hn (hr x (by simp) v hv) ho
    . cases e
  . cases e
 case build t parts=>
  split at e
  . rename_i ps Jt;obtain⟨v,h1,rfl⟩:=gr e;have hp:=sZ (E:=E) (ρ:=ρ) parts.toList ps (fun x J=>hr x (by simpa using J)) Jt;have hq:As E ps (parts.map fun(i,x)=>(i,ρ x)).toList:=by simpa using hp
    obtain⟨v',q1,q2⟩:=MP (P:=P) (w:=w) hq h1;refine eL g (v':=v') ?_ q2;simp only[Sem.run_bind,q1,Result.andThen_ok,Sem.run_pure]
  . cases e
 case buildSlice t len parts=>
  split at e
  . rename_i ps Jt;have hp:=sZ (E:=E) (ρ:=ρ) parts.toList ps (fun x J=>hr x (by simpa using J)) Jt;have hq:As E ps (parts.map fun(i,x)=>(i,ρ x)).toList:=by simpa using hp
    have:=DR (P:=P) (w:=w) (t:=t) (len:=len) g hn hq e;exact this
  . cases e
 case load t x=>
  split at e
  . rename_i v hv;obtain⟨u,h1,rfl⟩:=gr e;exact SQ g (hr x (by simp) v hv) h1
  . cases e
 case store t x y=>
  split at e
  . rename_i a v ha hv;split at e
    . rename_i h' hs;obtain rfl:=eU e;exact OP g (hr x (by simp) a ha) (hr y (by simp) v hv) hs
    . cases e
  . cases e
 case nilCheck x=>
  split at e
  . rename_i p hv;obtain rfl:=eU e;have J:=hr x (by simp) _ hv;obtain⟨b,s,q1,q2⟩:=J;rw[q2];exact eL g (v':=.pointer (some ⟨b,s+p.2,none⟩)) rfl ⟨b,s,q1,rfl⟩
  . rename_i cs hv;obtain rfl:=eU e;have J:=hr x (by simp) _ hv;obtain⟨b,o,c,vs,q1,q2⟩:=J;rw[q1];exact eL g (v':=.pointer (some ⟨b,o,none⟩)) rfl ⟨b,o,c,vs,rfl,q2⟩
  . rename_i f a c hv;obtain rfl:=eU e;have J:=hr x (by simp) _ hv;obtain⟨f',a',c',q0,q1,q2,q3⟩:=J;simp only[Ap]at q0;subst q0;rw[q3];exact eL g (v':=.func (.func f) a'.toArray c'.toArray) rfl ⟨_,a',c',rfl,q1,q2,rfl⟩
  . rename_i t v hv;obtain rfl:=eU e;have J:=hr x (by simp) _ hv;obtain⟨y,q1,q2⟩:=J;rw[q2];exact eL g (v':=.iface t y) rfl ⟨y,q1,rfl⟩
  . cases e
 case binOp op t x y yt=>
  split at e
  . rename_i a b ha Y;obtain⟨u,h1,rfl⟩:=gr e;exact OT g (hr x (by simp) a ha) (hr y (by simp) b Y) h1
  . cases e
 case unOp op t x=>
  split at e
  . rename_i v hv;obtain⟨u,h1,rfl⟩:=gr e;exact SS g (hr x (by simp) v hv) h1
  . cases e
 case convert s d x=>
  split at e
  . rename_i v hv;exact JR g hn (hr x (by simp) v hv) e
  . cases e
 case makeInterface t x=>
  split at e
  . rename_i v d hv hu;split at e
    . cases e
    . rename_i hd;obtain rfl:=eU e;have J:=hr x (by simp) v hv;refine eL g (v':=.iface t (ρ x)) ?_ ⟨ρ x,J,rfl⟩;simp only[Instr.makeInterface,Sem.run_bind,eo hu,Result.andThen_ok];cases d<;>first|(exact absurd rfl (hd _))|rfl
  . cases e
 case makeFunc f first captured=>
  split at e
  . rename_i a c ha N;split at e
    case isFalse=>cases e
    rename_i hny;obtain rfl:=eU e;have hfn:Ap E f f:=by cases f<;>first|rfl|cases hny
    have r1:=uN (E:=E) (ρ:=ρ) first.toList a (fun x J=>hr x (by simp at J ⊢;exact .inl J)) ha
    have r2:=uN (E:=E) (ρ:=ρ) captured.toList c (fun x J=>hr x (by simp at J ⊢;exact .inr J)) N;refine eL g (v':=.func f (first.map ρ) (captured.map ρ)) rfl ⟨f,first.toList.map ρ,captured.toList.map ρ,hfn,r1,r2,?_⟩;congr 1<;>(apply Array.ext';simp)
  . cases e
 case makeMap t res=>
  cases res with
  |some _=>simp at e
  |none=>
   simp only at e;split at e
   . rename_i h' n' ho;obtain rfl:=eU e;exact JV g hn ho
   . cases e
 case makeSlice t l c=>
  split at e
  . rename_i lv cv hl N;exact Fw g hn (hr l (by simp) lv hl) (hr c (by simp) cv N) e
  . cases e
 case slice t x lo hi mx=>
  split at e
  . rename_i v lov hiv mxv hv G1 M0 hmx;obtain⟨u,h1,rfl⟩:=gr e;refine OW g (hr x (by simp) v hv) (wP (fun y hy=>hr y ?_) G1) (wP (fun y hy=>hr y ?_) M0) (wP (fun y hy=>hr y ?_) hmx) h1
    . subst hy;simp
    . subst hy;simp
    . subst hy;simp
  . cases e
 case fieldAddr t x f=>
  split at e
  . rename_i v hv;obtain⟨u,h1,rfl⟩:=gr e;exact Fs g (hr x (by simp) v hv) h1
  . cases e
 case field t x f=>
  split at e
  . rename_i v hv;obtain⟨u,h1,rfl⟩:=gr e;exact OU g (hr x (by simp) v hv) h1
  . cases e
 case indexAddr t x i=>
  split at e
  . rename_i v iv hv hi;obtain⟨u,h1,rfl⟩:=gr e;exact Ft g (hr x (by simp) v hv) (hr i (by simp) iv hi) h1
  . cases e
 case index t x i=>
  split at e
  . rename_i v iv hv hi;obtain⟨u,h1,rfl⟩:=gr e;exact OV g (hr x (by simp) v hv) (hr i (by simp) iv hi) h1
  . cases e
 case lookup t x k ok=>
  split at e
  . rename_i v kv hv U;obtain⟨u,h1,rfl⟩:=gr e;exact MY g (hr x (by simp) v hv) (hr k (by simp) kv U) h1
  . cases e
 case mapUpdate t m k v=>
  split at e
  . rename_i mv kv vv K U hv;exact x9 g (hr m (by simp) mv K) (hr k (by simp) kv U) (hr v (by simp) vv hv) e
  . cases e
 case insert t m k v=>
  split at e
  . rename_i mv kv vv K U hv;exact x9 g (hr m (by simp) mv K) (hr k (by simp) kv U) (hr v (by simp) vv hv) e
  . cases e
 case mapEntry t m k=>
  split at e
  . rename_i mv kv K U;exact HP g (hr m (by simp) mv K) (hr k (by simp) kv U) e
  . cases e
 case entryStore t m s v=>
  split at e
  . rename_i mv sv vv K hs hv;exact DW g (hr m (by simp) mv K) (hr s (by simp) sv hs) (hr v (by simp) vv hv) e
  . cases e
 case range t x=>
  split at e
  . rename_i v hv;exact O4 g hn (hr x (by simp) v hv) e
  . cases e
 case next it b=>
  split at e
  . rename_i v hv;exact S3 g (hr it (by simp) v hv) e
  . cases e
 case typeAssert x xt t ok=>
  split at e
  . rename_i v hv;obtain⟨u,h1,rfl⟩:=gr e;exact DT g (hr x (by simp) v hv) h1
  . cases e
 case extract x i=>
  split at e
  . rename_i vs hv;obtain⟨u,h1,rfl⟩:=gr e;exact JP g (hr x (by simp) _ hv) h1
  . cases e
 case panic x=>
  split at e
  . rename_i t v hv;obtain rfl:=eU e;obtain⟨y,q1,q2⟩:=hr x (by simp) _ hv;refine⟨.iface t y,?_,y,q1,rfl⟩;rw[q2];simp[Instr.panic]
  . cases e
 case call c=>exact JW g hn hr e
 case defer c=>exact HR hr e
 all_goals (cases e)
end
def wQ(E:Env)(T:I V)(a:Act):Prop:=∀t v,T.get t=some v->∃v',a.tmps[t]? =some v'/\eB E v v'
theorem nU{E E':Env}(h:E.le E'){T:I V}{a:Act}(r:wQ E T a):wQ E' T a:=fun t v e=>let⟨v',h1,C⟩:=r t v e;⟨v',h1,jF h v v' C⟩
section
variable(a:Act){E:Env}(dst:Option Tmp){T:I V}
theorem l9(v:Value):(a.put dst v).tmps.size=a.tmps.size:=by cases dst<;>simp[Act.put]
theorem jS(v:Value):(a.put dst v).defers=a.defers:=by cases dst<;>rfl
def ng(hc:Nat)(dst:Option Tmp):Prop:=∀d,dst=some d->d<hc
theorem ou{fr':I V}{a:Act}{dst:Option Tmp}{v:V}{v':Value}(r:wQ E T a)(e:jB T dst v=some fr')(hv:eB E v v')(hd:ng a.tmps.size dst):wQ E fr' (a.put dst v'):=by
 cases dst with
 |none=>simp only[jB,aq]at e;subst e;exact r
 |some d=>
  simp only[jB]at e;split at e
  . rename_i ht;obtain rfl:=eU e;intro t x J;rw[I.gw _ _ _ ht]at J;have eY:=hd d rfl;by_cases q:t=d
    . subst q;rw[aD rfl]at J;cases J;exact⟨v',by simp[Act.put,eY],hv⟩
    . rw[aA q]at J;obtain⟨y,h1,C⟩:=r t x J;exact⟨y,by simp[Act.put,Ne.symm q,h1],C⟩
  . cases e
theorem nh{a:Act}(ge:GE E)(r:wQ E T a)(x:Operand):nf E T a.eval x:=by
 intro v e;cases x with
 |tmp t=>obtain⟨v',h1,C⟩:=r t v e;simp only[Act.eval,bK,h1];exact C
 |const c=>exact zn e
 |func f=>simp only[jc,aq]at e;subst e;exact⟨_,[],[],rfl,rfl,rfl,rfl⟩
 |global g=>exact Hp ge e
end
theorem wR{E:Env}{ops:Array Oper}{o:Oper}{T:I V}{a:Act}{b:Bool}(r:∀j Fh q d,o.guard=some (j,Fh)->ops[j]? =some q->q.dst=some d->∀v,T.get d=some v->∃v',a.tmps[d]? =some v'/\eB E v v')(e:gd ops o T=some b):
  Region.wanted o (yielded ops a.tmps)=b:=by
 unfold gd at e;unfold Region.wanted;cases hg:o.guard with
 |none=>simp only[hg,aq]at e ⊢;exact e
 |some p=>
  obtain⟨j,Fh⟩:=p;simp only[hg]at e ⊢;cases hj:ops[j]? with
  |none=>simp[hj]at e
  |some q=>
   simp only[hj]at e;cases hd:q.dst with
   |none=>simp[hd]at e
   |some d=>
    simp only[hd]at e;cases hf:T.get d with
    |none=>simp[hf]at e
    |some v=>
     obtain⟨v',h1,C⟩:=r j Fh q d hg hj hd v hf;have hy:yielded ops a.tmps j=(match(some v':Option Value)with|some (.bool b)=>some b|_=>none):=by
      unfold yielded;rw[hj];simp only[Option.bind_some,hd,h1];cases v'<;>rfl
     cases v with
     |bool b0=>
      simp only[hf,aq]at e;simp only[eB]at C;subst C;rw[hy,<- e];cases b0<;>cases Fh<;>rfl
     |gV vs=>
      cases vs with
      |nil=>
       simp only[hf,aq]at e;obtain⟨l,hl,rfl⟩:=C;rw[hy,<- e];rfl
      |cons _ _=>simp[hf]at e
     |_=>simp[hf]at e
def qy(E:Env)(n:Nat):Prop:=∀m,n<=m->E.ι m=none
def wS(E:Env):qw->Ending->Prop
 | .ret v,.returned v'=>eB E v v'
 | .lU v,.panicked chain=>∃v',eB E v v'/\chain=[{ v:=v',recovered:=false }]
 |_,_=>False
def fz(s':Option Nat):Fence:={ Fence.wide with round:=s' }
def jj(E:Env)(h:I es)(n:Nat)(w:World)(sI:qw)(h':I es)(n':Nat)(e:Ending)(w':World):Prop:=
 ∃E',jf E h w E' h' w'/\(∀m,m<n->E'.ι m=E.ι m)/\qy E' n'/\n<=n'/\wS E' sI e
def gY(P:Program)(cf:gm):Prop:=∀f args h n sI h' n',cf f args h n=some (sI,h',n')->∀E w dQ,eC E args dQ->Good E h w->qy E n->
 (callee P f=true->Calls P f dQ.toArray w (jj E h n w sI h' n'))/\
 (∀m l s,f=P.funcs.size+m->E.ι m=some (l,s)->YieldAt Fence.wide 0 P l dQ.toArray w (jj E h n w sI h' n'))
theorem uO{s':Option Nat}{ρ:Operand->Value}{o:Oper}(h:∀c,o.op≠ .defer c):Oper.semAt s' ρ o=execOp ρ o:=by
 cases s' with
 |none=>exact Oper.semAt_none ..
 |some l=>exact Oper.semAt_some l ρ o h
theorem JX{T:I V}{c:Call}{r:s'}(e:B3 T c=some r):∃f a b,r= .ud f a b:=by
 unfold B3 at e;split at e
 . split at e
   . split at e
     . simp only[aq]at e;exact⟨_,_,_,e.symm⟩
     . cases e
   . cases e
 . cases e
section
variable{P:Program}{E:Env}{h h':I es}{n n':Nat}{w:World}{T:I V}{a:Act}{o:Oper}{hm:Act->World->Prop}{Q:Exit->Act->World->Prop}{rC:Option Nat}
theorem zy{r:s'}(e:eA P o T h n=some r)(hr:∀f a b,r≠ .ud f a b):∀c,o.op≠ .defer c:=by
 intro c N;simp only[eA,N]at e;obtain⟨f,x,y,q⟩:=JX e;exact hr f x y q
theorem FB{v:V}(g:Good E h w)(hn:E.ι n=none)(hr:∀x∈o.op.operands,nf E T a.eval x)(e:eA P o T h n=some (.val v h' n'))
  (U:∀E' w' v',eB E' v v'->jf E h w E' h' w'->(∀m,m≠n->E'.ι m=E.ι m)->((n'=n/\E'=E)\/n'=n+1)->hm (a.put o.dst v') w'):o.wpIn (fz rC) 0 P a w hm Q:=by
 obtain⟨E',w',v',gx,h1,C,h3,h4⟩:=nT g hn hr e;refine⟨fun _ _=>trivial,?_⟩;rw[uO (zy e fun _ _ _=>by simp)];rcases gx with gx|⟨gx,rfl⟩
 . rw[gx,Oper.uponIn_value];exact U E' w' v' h1 C h3 h4
 . rw[gx,Oper.uponIn_skip];exact U E' w' undef h1 C h3 h4
theorem Bs{cf:gm}{f:FuncId}{args:ag}{sI:qw}(lK:gY P cf)(g:Good E h w)(hn:qy E n)(hr:∀x∈o.op.operands,nf E T a.eval x)
  (e:eA P o T h n=some (.call f args)) (ec:cf f args h n=some (sI,h',n'))
  (U:∀E' w',jf E h w E' h' w'->(∀m,m<n->E'.ι m=E.ι m)->qy E' n'->n<=n'->
   match sI with
   | .ret v=>∀v',eB E' v v'->hm (a.put o.dst v') w'
   | .lU v=>∀v',eB E' v v'->Q (.panic [{ v:=v',recovered:=false }]) a w'):o.wpIn (fz rC) 0 P a w hm Q:=by
 obtain⟨dQ,h1,gx⟩:=nT g (hn n (aK _)) hr e;refine⟨fun _ _=>trivial,?_⟩;rw[uO (zy e fun _ _ _=>by simp)];have pX:∀en w',jj E h n w sI h' n' en w'->(match en,w' with
  | .returned v,w''=>hm (a.put o.dst v) w''
  | .panicked chain,w''=>Q (.panic chain) a w''
  | .outgrown,_=>LetsOut Q):=fun en w' ⟨E',u1,u2,u3,u4,u5⟩=>by
  have:=U E' w' u1 u2 u3 u4;cases sI with
  |ret v=>cases en with
   |returned v'=>exact this v' u5
   |panicked _=>exact u5.elim
   |outgrown=>exact u5.elim
  |lU v=>cases en with
   |returned v'=>exact u5.elim
   |panicked chain=>obtain⟨v',q1,rfl⟩:=u5;exact this v' q1
   |outgrown=>exact u5.elim
 rcases gx with⟨gx,C⟩|⟨m,l,s,C,h3,gx⟩
 . rw[gx,Oper.uponIn_enter];have N:CallsIn Fence.wide (0-1) P f dQ.toArray w _:=callsIn_wide.2 (((lK f args h n sI h' n' ec E w dQ h1 g hn).1 C).mono pX);exact⟨fun hd=>by simp[fz,Fence.wide]at hd,N⟩
 . obtain⟨fn,tmps,assign,body,q1,q2⟩:=(lK f args h n sI h' n' ec E w dQ h1 g hn).2 m l s C h3;rw[gx,q1,Oper.uponIn_round];have N:RoundIn Fence.wide (0-1) P l fn tmps assign body w _:=q2.mono pX;exact⟨fun hd=>by simp[fz,Fence.wide]at hd,N⟩
theorem O5{v:V}(g:Good E h w)(hn:E.ι n=none)(hr:∀x∈o.op.operands,nf E T a.eval x)(e:eA P o T h n=some (.panic v))
  (U:∀v',eB E v v'->Q (.panic [{ v:=v',recovered:=false }]) a w):o.wpIn (fz rC) 0 P a w hm Q:=by
 obtain⟨v',gx,h1⟩:=nT g hn hr e;refine⟨fun _ _=>trivial,?_⟩;rw[uO (zy e fun _ _ _=>by simp)];rw[gx,Oper.uponIn_panic];exact U v' h1
theorem Xg{f:FuncId}{c args:ag}(hrn:rC=none)(g:Good E h w)(hn:E.ι n=none)(hr:∀x∈o.op.operands,nf E T a.eval x)(e:eA P o T h n=some (.ud f c args))
  (U:∀c' dQ,eC E c c'->eC E args dQ->hm ({ a with defers:={ target:=.fn (.func f) c'.toArray,args:=dQ.toArray }::a.defers }.put o.dst undef) w):o.wpIn (fz rC) 0 P a w hm Q:=by
 subst hrn;obtain⟨c',dQ,gx,h1,C⟩:=nT g hn hr e;refine⟨fun _ _=>trivial,?_⟩;show o.uponIn (fz none) 0 P a hm Q ((Oper.semAt none a.eval o).run P w);rw[Oper.semAt_none,gx,Oper.uponIn_defer];exact U c' dQ h1 C
end
def Sub(x y:I es):Prop:=∀k b,x.get k=some b->y.get k=some b
section
variable{P:Program}{T:I V}{x:I es}{n:Nat}
theorem HS{o:Oper}{r:s'}(hp:oJ o.op=true)(e:eA P o T x n=some r):∃v,r= .val v x n/\∀(y:I es) (k:Nat),eA P o T y k=some (.val v y k):=by
 obtain⟨dst,op,ty,pos,after,guard⟩:=o;simp only at hp;cases op<;>simp only[oJ]at hp<;>first|(cases hp;done)|skip
 all_goals simp only[eA]at e
 case move a=>obtain⟨v,h1,rfl⟩:=gr e;exact⟨v,rfl,fun y k=>by simp only[eA,h1,kB]⟩
 case assign a=>obtain⟨v,h1,rfl⟩:=gr e;exact⟨v,rfl,fun y k=>by simp only[eA,h1,kB]⟩
 case pick c a b=>
  split at e
  . rename_i N;obtain⟨v,h1,rfl⟩:=gr e;exact⟨v,rfl,fun y k=>by simp only[eA,N,h1,kB]⟩
  . rename_i N;obtain⟨v,h1,rfl⟩:=gr e;exact⟨v,rfl,fun y k=>by simp only[eA,N,h1,kB]⟩
  . cases e
 case build t parts=>
  split at e
  . rename_i ps N;obtain⟨v,h1,rfl⟩:=gr e;exact⟨v,rfl,fun y k=>by simp only[eA,N,h1,kB]⟩
  . cases e
 case nilCheck a=>
  split at e
  . rename_i p N;obtain rfl:=eU e;exact⟨_,rfl,fun y k=>by simp only[eA,N]⟩
  . rename_i N;obtain rfl:=eU e;exact⟨_,rfl,fun y k=>by simp only[eA,N]⟩
  . rename_i N;obtain rfl:=eU e;exact⟨_,rfl,fun y k=>by simp only[eA,N]⟩
  . rename_i t v N;obtain rfl:=eU e;exact⟨_,rfl,fun y k=>by simp only[eA,N]⟩
  . cases e
 case binOp op t a b yt=>
  split at e
  . rename_i u w h1 C;obtain⟨v,h3,rfl⟩:=gr e;exact⟨v,rfl,fun y k=>by simp only[eA,h1,C,h3,kB]⟩
  . cases e
 case unOp op t a=>
  split at e
  . rename_i u h1;obtain⟨v,h3,rfl⟩:=gr e;exact⟨v,rfl,fun y k=>by simp only[eA,h1,h3,kB]⟩
  . cases e
 case makeInterface t a=>
  split at e
  . rename_i v d h1 C;split at e
    . cases e
    . rename_i hd;obtain rfl:=eU e;refine⟨_,rfl,fun y k=>?_⟩;simp only[eA,h1,C]
  . cases e
 case makeFunc f a c=>
  split at e
  . rename_i u w h1 C;split at e
    case isFalse=>cases e
    rename_i hny;obtain rfl:=eU e;exact⟨_,rfl,fun y k=>by simp only[eA,h1,C,hny,if_true]⟩
  . cases e
 case fieldAddr t a f=>
  split at e
  . rename_i u h1;obtain⟨v,h3,rfl⟩:=gr e;exact⟨v,rfl,fun y k=>by simp only[eA,h1,h3,kB]⟩
  . cases e
 case field t a f=>
  split at e
  . rename_i u h1;obtain⟨v,h3,rfl⟩:=gr e;exact⟨v,rfl,fun y k=>by simp only[eA,h1,h3,kB]⟩
  . cases e
 case indexAddr t a i=>
  split at e
  . rename_i u w h1 C;obtain⟨v,h3,rfl⟩:=gr e;exact⟨v,rfl,fun y k=>by simp only[eA,h1,C,h3,kB]⟩
  . cases e
 case index t a i=>
  split at e
  . rename_i u w h1 C;obtain⟨v,h3,rfl⟩:=gr e;exact⟨v,rfl,fun y k=>by simp only[eA,h1,C,h3,kB]⟩
  . cases e
 case typeAssert a s t ok=>
  split at e
  . rename_i u h1;obtain⟨v,h3,rfl⟩:=gr e;exact⟨v,rfl,fun y k=>by simp only[eA,h1,h3,kB]⟩
  . cases e
 case extract a i=>
  split at e
  . rename_i vs h1;obtain⟨v,h3,rfl⟩:=gr e;exact⟨v,rfl,fun y k=>by simp only[eA,h1,h3,kB]⟩
  . cases e
section
variable{t:TypeId}{o:Oper}{a:V}{r:s'}
theorem HT{v:V}{y:I es}(hs:Sub x y)(e:loadAt P t x a=some v):loadAt P t y a=some v:=by
 unfold loadAt at e ⊢;split at e
 . rename_i m o;split at e
   . rename_i cs K;simp only[hs m _ K];exact e
   . rename_i k ks K;simp only[hs m _ K];exact e
   . rename_i k ks K;simp only[hs m _ K];exact e
   . rename_i cs K;simp only[hs m _ K];exact e
   . rename_i fr self x0 K;simp only[hs m _ K];exact e
   . cases e
 . exact e
 . cases e
theorem FC{m k:Nat}{y:I es}(hs:Sub x y)(e:xG x m k=true):xG y m k=true:=by
 unfold xG at e ⊢;split at e
 . rename_i cs K;simp only[hs m _ K];exact e
 . cases e
theorem HU{v:V}{lo hi mx:Option V}{y:I es}(hs:Sub x y)(e:my P t x a lo hi mx=some v):my P t y a lo hi mx=some v:=by
 unfold my at e ⊢;split at e
 . cases e
 . rename_i h0;rw[aA h0];split at e
   . exact e
   . exact e
   . exact e
   . rename_i nn el b o hu;cases h1:ko P el with
     |none=>simp[h1]at e
     |some s=>cases C:fh nn nn mx with
      |none=>simp[h1,C]at e
      |some m=>cases h3:fh nn m hi with
       |none=>simp[h1,C,h3]at e
       |some hh=>cases h4:fh 0 hh lo with
        |none=>simp[h1,C,h3,h4]at e
        |some l=>
         simp only[h1,C,h3,h4]at e ⊢;split at e
         . rename_i hq;rw[aD ⟨hq.1,hq.2.1,FC hs hq.2.2⟩];exact e
         . cases e
   . cases e
theorem FD{k v:V}{ok:Bool}{y:I es}(hs:Sub x y)(e:vn P t x a k ok=some v):vn P t y a k ok=some v:=by
 unfold vn at e ⊢;split at e
 . split at e
   . cases a with
     |map m=>
      cases m with
      |none=>exact e
      |some m=>
       simp only[V.Vz]at e ⊢;cases K:x.get m with
       |none=>simp[K]at e
       |some o=>
        have hy:=hs m o K;rw[hy];rw[K]at e;cases o with
        |gM kk O=>exact e
        |_=>simp only[hy];simp only[K]at e;exact e
     |_=>exact e
   . cases e
 . cases e
theorem M1{ts:Array TypeId}{as:ag}{v:V}{y:I es}(hs:Sub x y)(e:MM P ts as x=some v):MM P ts as y=some v:=by
 unfold MM at e ⊢;split at e
 . split at e
   . exact e
   . exact e
   . exact e
   . exact e
   . exact e
   . rename_i m hu;cases K:x.get m with
     |none=>simp[K]at e
     |some o=>
      simp only[hs m o K];simp only[K]at e;exact e
   . cases e
 . cases e
theorem JY{o:es}{p:I es×Nat}(e:newObj x n o=some p)(y:I es):n<gy/\p=(x.set n (some o),n+1)/\newObj y n o=some (y.set n (some o),n+1):=by
 obtain⟨h',n'⟩:=p;obtain⟨h1,rfl,rfl⟩:=kS e;exact⟨h1,rfl,by simp[newObj,h1]⟩
def uP(P:Program)(o:Oper)(T:I V)(x:I es)(n:Nat)(r:s'):Prop:=
 (∃v,r= .val v x n/\∀y,Sub x y->eA P o T y n=some (.val v y n)) \/
 (∃v b,n<gy/\r= .val v (x.set n (some b)) (n+1)/\∀y,eA P o T y n=some (.val v (y.set n (some b)) (n+1)))
theorem uP.alloc{ob:es}{v:V}{h':I es}{n':Nat}(e:newObj x n ob=some (h',n'))(k:∀(y C:I es) (m:Nat),newObj y n ob=some (C,m)->eA P o T y n=some (.val v C m)):uP P o T x n (.val v h' n'):=by
 obtain⟨h1,rfl,rfl⟩:=kS e;exact .inr ⟨v,ob,h1,rfl,fun y=>k y _ _ (JY e y).2.2⟩
theorem DX(hp:oJ o.op=true)(e:eA P o T x n=some r):uP P o T x n r:=by
 obtain⟨v,h1,C⟩:=HS hp e;exact .inl ⟨v,h1,fun y _=>C y n⟩
theorem quiet(hq:pN o.op=false)(e:eA P o T x n=some r):uP P o T x n r:=by
 by_cases hp:oJ o.op=true
 . exact DX hp e
 have e0:=e;obtain⟨dst,op,ty,pos,after,guard⟩:=o;simp only at hq hp;cases op<;>simp only[pN]at hq<;>first|(cases hq;done)|skip
 all_goals first|(exact absurd rfl hp)|skip
 all_goals simp only[eA]at e
 case alloc t=>
  split at e
  . rename_i z hz;split at e
    . rename_i h' n' ho;obtain rfl:=eU e;exact uP.alloc ho fun y C m q=>by simp only[eA,hz,q]
    . cases e
  . cases e
 case box t a=>
  split at e
  . rename_i v hv;split at e
    . rename_i h' n' ho;obtain rfl:=eU e;exact uP.alloc ho fun y C m q=>by simp only[eA,hv,q]
    . cases e
  . cases e
 case buildSlice t len parts=>
  split at e
  . rename_i ps Jt;unfold og at e;split at e
    . rename_i el he;split at e
      . rename_i s z hs hz;split at e
        . rename_i N;split at e
          . rename_i cs hf;split at e
            . rename_i h' n' ho;obtain rfl:=eU e;exact uP.alloc ho fun y C m q=>by
               simp only[eA,Jt,og,he,hs,hz];rw[aD N];simp only[hf,q]
            . cases e
          . cases e
        . cases e
      . cases e
    . cases e
  . cases e
 case load t a=>
  split at e
  . rename_i v hv;obtain⟨u,h1,rfl⟩:=gr e;exact .inl ⟨u,rfl,fun y hs=>by simp only[eA,hv,HT hs h1,kB]⟩
  . cases e
 case convert s d a=>
  split at e
  . rename_i v hv;unfold oS at e;split at e
    . rename_i h1 C;obtain rfl:=eU e;exact .inl ⟨_,rfl,fun y hs=>by simp only[eA,hv,oS,h1,C]⟩
    . rename_i h1 C;obtain rfl:=eU e;exact .inl ⟨_,rfl,fun y hs=>by simp only[eA,hv,oS,h1,C]⟩
    . rename_i h1 C;obtain rfl:=eU e;exact .inl ⟨_,rfl,fun y hs=>by simp only[eA,hv,oS,h1,C]⟩
    . rename_i h1 C;split at e
      . rename_i h3;split at e
        . rename_i h' n' ho;obtain rfl:=eU e;exact uP.alloc ho fun y DE m q=>by simp only[eA,hv,oS,h1,C,h3,q]
        . cases e
      . cases e
    . rename_i h1 C;split at e
      . rename_i h3;obtain rfl:=eU e;exact .inl ⟨_,rfl,fun y hs=>by simp only[eA,hv,oS,h1,C,h3]⟩
      . cases e
    . rename_i h1 C;split at e
      . rename_i h3;obtain rfl:=eU e;exact .inl ⟨_,rfl,fun y hs=>by simp only[eA,hv,oS,h1,C,h3]⟩
      . cases e
    . rename_i h1 C;split at e
      . rename_i h3;split at e
        . rename_i h4;have key:∀y:I es,Sub x y->∀m,Ao (x.get m)=Ao (y.get m)\/x.get m=none:=fun y hs m=>by
           cases K:x.get m with
           |none=>exact .inr rfl
           |some o=>rw[hs m o K];exact .inl rfl
          have ack:∀y:I es,Sub x y->∀m,uA (x.get m)=uA (y.get m)\/x.get m=none:=fun y hs m=>by
           cases K:x.get m with
           |none=>exact .inr rfl
           |some o=>rw[hs m o K];exact .inl rfl
          rename_i m0 o0 awq _ _ _;split at e
          . rename_i s0 JO;split at e
            . rename_i hl;obtain rfl:=eU e;refine .inl ⟨_,rfl,fun y hs=>?_⟩;simp only[eA,hv,oS,h1,C,h3];rw[aD h4];rcases ack y hs m0 with q|q
              . rw[<- q,JO];simp only[aD hl]
              . rw[q]at JO;cases JO
            . cases e
          . rename_i ai1;split at e
            . rename_i ks HV;split at e
              . rename_i hl;obtain rfl:=eU e;refine .inl ⟨_,rfl,fun y hs=>?_⟩;simp only[eA,hv,oS,h1,C,h3];rw[aD h4];rcases ack y hs m0 with q|q
                . rw[<- q,ai1];rcases key y hs m0 with q|q
                  . rw[<- q,HV];simp only[aD hl]
                  . rw[q]at HV;cases HV
                . rw[q]at HV;cases HV
              . cases e
            . rename_i HV;split at e
              . obtain rfl:=eU e;refine .inl ⟨_,rfl,fun y hs=>?_⟩;simp only[eA,hv,oS,h1,C,h3];rw[aD h4];cases uA (y.get m0)with
                |some s0=>simp
                |none=>
                 cases Ao (y.get m0)with
                 |none=>rfl
                 |some ks=>simp[nG]
              . split at e
                . rename_i cs K;split at e
                  . rename_i bs N;split at e
                    . rename_i R ht;obtain rfl:=eU e;refine .inl ⟨_,rfl,fun y hs=>?_⟩;simp only[eA,hv,oS,h1,C,h3];rw[aD h4];simp only[hs _ _ K,uA,Ao,N,ht]
                    . cases e
                  . cases e
                . cases e
        . cases e
      . cases e
    . cases e
  . cases e
 case makeMap t res=>
  cases res with
  |some _=>simp at e
  |none=>
   simp only at e;split at e
   . rename_i h' n' ho;obtain rfl:=eU e;exact uP.alloc ho fun y C m q=>by simp only[eA,q]
   . cases e
 case makeSlice t l c=>
  split at e
  . rename_i lv cv h1 C;unfold nH at e;split at e
    . rename_i el k l0 k' c0 he;split at e
      . rename_i i z h3 h4;simp only at e;split at e
        . rename_i N;split at e
          . rename_i h' n' ho;obtain rfl:=eU e;exact uP.alloc ho fun y DE m q=>by
             simp only[eA,h1,C,nH,he,h3,h4];rw[aD N];simp only[q]
          . cases e
        . cases e
      . cases e
    . cases e
  . cases e
 case slice t a lo hi mx=>
  split at e
  . rename_i v lov hiv mxv h1 C h3 h4;obtain⟨u,h5,rfl⟩:=gr e;exact .inl ⟨u,rfl,fun y hs=>by simp only[eA,h1,C,h3,h4,HU hs h5,kB]⟩
  . cases e
 case lookup t a k ok=>
  split at e
  . rename_i v kv h1 C;obtain⟨u,h5,rfl⟩:=gr e;exact .inl ⟨u,rfl,fun y hs=>by simp only[eA,h1,C,FD hs h5,kB]⟩
  . cases e
 case range t a=>
  split at e
  . rename_i v hv;unfold B0 at e;split at e
    . rename_i s hu;split at e
      . rename_i h' n' ho;obtain rfl:=eU e;exact uP.alloc ho fun y DE m q=>by simp only[eA,hv,B0,hu,q]
      . cases e
    . cases e
  . cases e
 case call c=>
  obtain⟨cal,args,ats⟩:=c;cases cal with
  |value f=>simp at hq
  |invoke f m=>simp at hq
  |builtin b=>
   simp only[v8]at e;split at e
   . rename_i as ha;cases b<;>simp only[]at hq<;>first|(cases hq;done)|skip
     . simp only[lA]at e;obtain⟨u,h5,rfl⟩:=gr e;exact .inl ⟨u,rfl,fun y hs=>by simp only[eA,v8,ha,lA,M1 hs h5,kB]⟩
     . simp only[lA]at e;split at e
       . obtain⟨u,h5,rfl⟩:=gr e;exact .inl ⟨u,rfl,fun y hs=>by simp only[eA,v8,ha,lA,h5,kB]⟩
       . cases e
     . simp only[lA]at e;split at e
       . obtain⟨u,h5,rfl⟩:=gr e;exact .inl ⟨u,rfl,fun y hs=>by simp only[eA,v8,ha,lA,h5,kB]⟩
       . cases e
   . cases e
 all_goals (cases e)
end
end
theorem Cq(l:List Oper)(o:Oper):oU (l++[o])=oU l++[fA (oU l) o.after.toList]:=by simp[oU]
theorem wj:∀(l:List Oper) (Ek:List Nat),(l.foldl (fun Ek o=>Ek++[fA Ek o.after.toList]) Ek).length=Ek.length+l.length
 | [],Ek=>by simp
 |o::l,Ek=>by simp only[List.foldl_cons];rw[wj l];simp;omega
theorem FE(l:List Oper):(oU l).length=l.length:=by unfold oU;rw[wj];simp
def gT(ops:Array Oper)(j:Nat):Nat:=match ops[j]? with
 |some o=>fA (oU (ops.toList.take j)) o.after.toList
 |none=>0
theorem Et{α:Type}{l:List α}{i:Nat}{o:α}(h:l[i]? =some o):l.take (i+1)=l.take i++[o]:=by
 rw[bY,h];rfl
theorem ni(ops:Array Oper):∀i,i<=ops.size->∀k,k<i->(oU (ops.toList.take i)).getD k 0=gT ops k
 |0,_,k,U=>by omega
 |i+1,hi,k,U=>by
  have ho:ops.toList[i]? =some ops[i]:=by rw[bP];exact aY S
  rw[Et ho,Cq];have hl:(oU (ops.toList.take i)).length=i:=by rw[FE];simp;omega
  by_cases q:k<i
  . rw[ax,bD S,<- ax];exact ni ops i S k q
  . have:k=i:=by omega
    subst this;rw[ax,cT S,hl];simp only[Nat.sub_self,cK,cq];unfold gT;rw[<- bP,ho]
theorem zz(a b i:Nat):eN (a|||b) i=(eN a i||eN b i):=Nat.testBit_or a b i
theorem Cr(k i:Nat):eN (2^k) i=decide (k=i):=Nat.testBit_two_pow
theorem jn(i:Nat):eN 0 i=false:=Nat.zero_testBit i
theorem wT(eS:List Nat)(k:Nat):∀O:List Edge,eN (fA eS O) k=true↔∃e∈O,Region.binds .any e=true/\(e.on=k\/eN (eS.getD e.on 0) k=true)
 | []=>by simp[fA,jn]
 |e::O=>by
  simp only[fA];by_cases Y:Region.binds .any e=true
  . rw[aD Y,zz,zz,Cr,cg,cg,wT eS k O];simp only[aS,az];constructor
    . rintro(⟨x,h1,C,h3⟩|h|h)
      . exact⟨x,.inr h1,C,h3⟩
      . exact⟨e,.inl rfl,Y,.inl h⟩
      . exact⟨e,.inl rfl,Y,.inr h⟩
    . rintro⟨x,rfl|h1,C,h3⟩
      . exact .inr h3
      . exact .inl ⟨x,h1,C,h3⟩
  . rw[aA Y,wT eS k O];simp only[az];constructor
    . rintro⟨x,h1,C,h3⟩;exact⟨x,.inr h1,C,h3⟩
    . rintro⟨x,rfl|h1,C,h3⟩
      . exact absurd C Y
      . exact⟨x,h1,C,h3⟩
def vy(ops:Array Oper):Prop:=∀(j:Nat) (o:Oper),ops[j]? =some o->∀e∈o.after,Region.binds .any e=true->e.on<j
section
variable{ops:Array Oper}
theorem ya(he:vy ops){j k:Nat}{o:Oper}(ho:ops[j]? =some o):
  eN (gT ops j) k=true↔∃e∈o.after,Region.binds .any e=true/\(e.on=k\/eN (gT ops e.on) k=true):=by
 have hj:j<ops.size:=(aU.1 ho).1;unfold gT;simp only[ho];rw[wT];constructor
 . rintro⟨e,h1,C,h3⟩;have oF:e∈o.after:=by simpa using h1
   have eY:=he j o ho e oF C;refine⟨e,oF,C,h3.imp id fun q=>?_⟩;rw[ni ops j S e.on eY]at q;exact q
 . rintro⟨e,h1,C,h3⟩;have eY:=he j o ho e h1 C;refine⟨e,by simpa using h1,C,h3.imp id fun q=>?_⟩;rw[ni ops j S e.on eY];exact q
theorem JZ(he:vy ops):∀j k,eN (gT ops j) k=true->k<j:=by
 intro j
 induction j using Nat.strongRecOn with
 |_ j ih=>
  intro k h;cases ho:ops[j]? with
  |none=>simp[gT,ho,jn]at h
  |some o=>
   obtain⟨e,h1,C,h3⟩:=(ya he ho).1 h;have eY:=he j o ho e h1 C;rcases h3 with rfl|h3
   . exact eY
   . exact Nat.lt_trans (ih e.on eY k h3) eY
theorem Eu(he:vy ops):∀j i k,eN (gT ops j) i=true->eN (gT ops i) k=true->eN (gT ops j) k=true:=by
 intro j
 induction j using Nat.strongRecOn with
 |_ j ih=>
  intro i k h h';cases ho:ops[j]? with
  |none=>simp[gT,ho,jn]at h
  |some o=>
   obtain⟨e,h1,C,h3⟩:=(ya he ho).1 h;have eY:=he j o ho e h1 C;refine(ya he ho).2 ⟨e,h1,C,.inr ?_⟩;rcases h3 with rfl|h3
   . exact h'
   . exact ih e.on eY i k h3 h'
theorem Cs(he:vy ops){dy:Nat->Prop}(hS:∀j o,dy j->ops[j]? =some o->∀e∈o.after,Region.binds .any e=true->dy e.on):
  ∀j k,dy j->eN (gT ops j) k=true->dy k:=by
 intro j
 induction j using Nat.strongRecOn with
 |_ j ih=>
  intro k hj h;cases ho:ops[j]? with
  |none=>simp[gT,ho,jn]at h
  |some o=>
   obtain⟨e,h1,C,h3⟩:=(ya he ho).1 h;have hs:=hS j o hj ho e h1 C;rcases h3 with rfl|h3
   . exact hs
   . exact ih e.on (he j o ho e h1 C) k hs h3
end
structure lD(ops:Array Oper)(hc:Nat):Prop where
 wm:vy ops
 dst:∀(j:Nat) (o:Oper),ops[j]? =some o->ng hc o.dst
 one:∀(i j:Nat) (o q:Oper) (t:Nat),ops[i]? =some o->ops[j]? =some q->o.dst=some t->q.dst=some t->i=j
 use:∀(i j:Nat) (o q:Oper) (t:Nat),ops[i]? =some o->ops[j]? =some q->i≠j->o.dst=some t->t∈uG ops q->if i<j then eN (gT ops j) i=true else eN (gT ops i) j=true
theorem Ct{ops:Array Oper}{hc:Nat}(h:OG ops hc=true):lD ops hc:=by
 unfold OG at h;rw[br]at h;have at_:∀j o,ops[j]? =some o->(o.after.toList.all (fun e=>!Region.binds .any e||decide (e.on<j))=true/\(match o.dst with|some d=>decide (d<hc)|none=>true)=true/\
   ∀i,i<ops.size->i≠j->Fk ops (oU ops.toList) i j=true):=by
  intro j o ho;have hj:j<ops.size:=(aU.1 ho).1;have:=h j (bN.2 hj);simp only[ho,ay,br,bN]at this;obtain⟨⟨h1,C⟩,h3⟩:=this;refine⟨by rw[br];exact h1,C,fun i hi jw=>?_⟩;have:=h3 i hi;simp only[cg]at this;rcases this with q|q
  . exact absurd (aJ q) jw
  . exact q
 have K:∀j,j<ops.size->(oU ops.toList).getD j 0=gT ops j:=fun j hj=>by
  have:=ni ops ops.size (aK _) j hj;rwa [show ops.toList.take ops.size=ops.toList from by rw[cj];simp]at this
 refine⟨?_,?_,?_,?_⟩
 . intro j o ho e he Y;obtain⟨h1,_,_⟩:=at_ j o ho;rw[br]at h1;have:=h1 e (by simpa using he);simp only[Y,Bool.not_true,bR,aS]at this;exact this
 . intro j o ho d hd;obtain⟨_,C,_⟩:=at_ j o ho;rw[hd]at C;simpa using C
 . intro i j o q t hi hj ho hq;by_cases e:i=j
   . exact e
   . obtain⟨_,_,h3⟩:=at_ j q hj;have:=h3 i (aU.1 hi).1 e;simp only[Fk,hi,hj,ho,hq,ay,bV]at this;have h1:=this.1;rw[Nat.beq_refl]at h1;cases h1
 . intro i j o q t hi hj jw ho ht;obtain⟨_,_,h3⟩:=at_ j q hj;have hil:=(aU.1 hi).1;have Oi:=(aU.1 hj).1;have:=h3 i hil jw;have N:(uG ops q).contains t=true:=by simpa using ht
   simp only[Fk,hi,hj,ho,ay,N,if_true,K i hil,K j Oi]at this;have C:=this.2;split
   . rename_i q;rw[aD q]at C;exact C
   . rename_i q;rw[aA q]at C;exact C
abbrev uw:=Nat×Nat×I es×Nat
def eT(h0:I es)(c0:Nat)(ee:List uw):Nat->Nat×I es×Nat
 |0=>(0,h0,c0)
 |c+1=>match ee[c]? with
  |some e=>e.2
  |none=>(0,h0,c0)
section
variable{h0:I es}{c0:Nat}{ee:List uw}{e:uw}
theorem pY{c:Nat}(h:c<=ee.length):eT h0 c0 (ee++[e]) c=eT h0 c0 ee c:=by
 cases c with
 |zero=>rfl
 |succ c=>simp only[eT];rw[bD S]
theorem wU:eT h0 c0 (ee++[e]) (ee.length+1)=e.2:=by
 simp[eT]
end
def s9(h0:I es)(c0:Nat)(ee:List uw):Nat->List (Nat×Nat×I es)
 |0=>[]
 |c+1=>match ee[c]? with
  |some e=>(e.1,(eT h0 c0 ee c).1,(eT h0 c0 ee c).2.1)::s9 h0 c0 ee c
  |none=>s9 h0 c0 ee c
theorem Az{h0:I es}{c0:Nat}{ee:List uw}{e:uw}:∀c,c<=ee.length->s9 h0 c0 (ee++[e]) c=s9 h0 c0 ee c
 |0,_=>rfl
 |c+1,h=>by
  simp only[s9];rw[bD S,pY S,Az c S]
structure zA(ops:Array Oper)(lp:I V)(val:Nat->V)(j:Nat)(T:I V):Prop where
 new:∀(i:Nat) (o:Oper) (t:Nat),i<j->ops[i]? =some o->o.dst=some t->T.get t=some (val i)
 old:∀(t:Nat),(∀(i:Nat) (o:Oper),i<j->ops[i]? =some o->o.dst≠some t)->T.get t=lp.get t
section
variable(P:Program)(cf:gm)(ops:Array Oper)(X:Nat)(h0:I es)(lp:I V)
def uQ(val:Nat->V)(dH:af)(reads:List (Nat×Nat×Oper×I V×V))(ee:List uw)(j:Nat)(o:Oper):Prop:=
 ∃T,zA ops lp val j T/\
  ((gd ops o T=some false/\val j= .gV []) \/
   (gd ops o T=some true/\pN o.op=false/\(∃b,(j,b)∈dH/\X+j<gy/\∀y,eA P o T y (X+j)=some (.val (val j) (y.set (X+j) (some b)) (X+j+1)))) \/
   (gd ops o T=some true/\pN o.op=false/\(∀y,eA P o T y (X+j)=some (.val (val j) y (X+j)))) \/
   (gd ops o T=some true/\pN o.op=false/\(j,gT ops j,o,T,val j)∈reads/\
    ∀c,c<=ee.length->(∀(c':Nat) (e:uw),c<=c'->ee[c']? =some e->eN (gT ops j) e.1=false)->(∀(c':Nat) (e:uw),c'<c->ee[c']? =some e->eN e.2.1 j=false)->
     ∃y,eA P o T (gO X dH (eT h0 (X+ops.size) ee c).1 (eT h0 (X+ops.size) ee c).2.1 (gT ops j)) (X+j)=some (.val (val j) y (X+j))) \/
   (gd ops o T=some true/\pN o.op=true/\∃c h n,ee[c]? =some (j,gT ops j,h,n)/\
    (let x:=eT h0 (X+ops.size) ee c
     (eA P o T (gO X dH x.1 x.2.1 (gT ops j)) x.2.2=some (.val (val j) h n)) \/
     ∃f args,eA P o T (gO X dH x.1 x.2.1 (gT ops j)) x.2.2=some (.call f args)/\cf f args (gO X dH x.1 x.2.1 (gT ops j)) x.2.2=some (.ret (val j),h,n))))
def rT(val:Nat->V)(j:Nat)(o:Oper)(b:es):Prop:=
 ∃T,zA ops lp val j T/\gd ops o T=some true/\pN o.op=false/\X+j<gy/\b.wr=true/\∀y,eA P o T y (X+j)=some (.val (val j) (y.set (X+j) (some b)) (X+j+1))
structure mH(val:Nat->V)(ee:List uw)(i:Nat)(d:Dr):Prop where
 eS:d.eS=oU (ops.toList.take i)
 T:zA ops lp val i d.T
 cur:d.cur=((eT h0 (X+ops.size) ee ee.length).1,(eT h0 (X+ops.size) ee ee.length).2.1)
 n:d.n=(eT h0 (X+ops.size) ee ee.length).2.2
 oo:d.oo=s9 h0 (X+ops.size) ee ee.length
 last:d.last=(ee.getLast?).map (·.1)
 tS:∀(c:Nat) (e:uw),ee[c]? =some e->e.1<i/\∃o:Oper,ops[e.1]? =some o/\pN o.op=true/\e.2.1=gT ops e.1
 dH:∀x∈d.dH,x.1<i
 one:∀(j:Nat) (b b':es),(j,b)∈d.dH->(j,b')∈d.dH->b=b'
 zB:∀(c:Nat) (e:uw) (o:Oper),ee[c]? =some e->ops[e.1]? =some o->∃T,zA ops lp val e.1 T/\gd ops o T=some true
 Bt:∀(j:Nat) (o:Oper) (b:es),(j,b)∈d.dH->ops[j]? =some o->rT P ops X lp val j o b
 chain:∀(c c':Nat) (e e':uw),c'<c->ee[c]? =some e->ee[c']? =some e'->eN (gT ops e.1) e'.1=true
 Xh:∀(j:Nat) (o:Oper),j<i->ops[j]? =some o->uQ P cf ops X h0 lp val d.dH d.reads ee j o
end
mutual
theorem S4:∀(a b:D),D.beq a b=true->a=b
 | .bool a,b,h=>by cases b<;>simp[D.beq]at h;rw[h]
 | .int k a,b,h=>by cases b<;>simp[D.beq]at h;rw[h.1,h.2]
 | .str a,b,h=>by
   cases b<;>simp only[D.beq]at h<;>first|(cases h;done)|skip
   rw[kD]at h;rw[eq_of_beq h]
 | .eE n a,b,h=>by
   cases b<;>simp only[D.beq]at h<;>first|(cases h;done)|skip
   simp only[ay]at h;rw[aJ h.1,uR _ _ h.2]
 | .agg a,b,h=>by
   cases b<;>simp only[D.beq]at h<;>first|(cases h;done)|skip
   rw[uR _ _ h]
theorem uR:∀(a b:ai),D.o4 a b=true->a=b
 | [],b,h=>by cases b<;>simp[D.o4]at h;rfl
 |x::xs,b,h=>by
  cases b with
  |nil=>simp[D.o4]at h
  |cons y ys=>
   simp only[D.o4,ay]at h;rw[S4 x y h.1,uR xs ys h.2]
end
mutual
theorem M2:∀(a:D),D.beq a a=true
 | .bool a=>by simp[D.beq]
 | .int k a=>by simp[D.beq]
 | .str a=>by simp only[D.beq];rw[kD];simp
 | .eE n a=>by simp only[D.beq,Nat.beq_refl,pZ a,Bool.and_self]
 | .agg a=>by simp only[D.beq,pZ a]
theorem pZ:∀(a:ai),D.o4 a a=true
 | []=>rfl
 |x::xs=>by simp only[D.o4,M2 x,pZ xs,Bool.and_self]
end
mutual
theorem FF:∀(a b:V),V.beq a b=true->a=b
 | .bool a,b,h=>by cases b<;>simp[V.beq]at h;rw[h]
 | .int k a,b,h=>by cases b<;>simp[V.beq]at h;rw[h.1,h.2]
 | .str a,b,h=>by
   cases b<;>simp only[V.beq]at h<;>first|(cases h;done)|skip
   rw[kD]at h;rw[eq_of_beq h]
 | .ptr a,b,h=>by
   cases b<;>simp only[V.beq]at h<;>first|(cases h;done)|skip
   rw[Cu _ _ h]
 | .eZ a l c e,b,h=>by
   cases b<;>simp only[V.beq]at h<;>first|(cases h;done)|skip
   simp only[ay]at h;obtain⟨⟨⟨h1,C⟩,h3⟩,h4⟩:=h;rw[Cu _ _ h1,aJ C,aJ h3,aJ h4]
 | .map a,b,h=>by
   cases b<;>simp only[V.beq]at h<;>first|(cases h;done)|skip
   rename_i c;cases a<;>cases c<;>simp only[Fi]at h<;>first|(cases h;done)|skip
   . rfl
   . rw[aJ h]
 | .fn f a c,b,h=>by
   cases b<;>simp only[V.beq]at h<;>first|(cases h;done)|skip
   rename_i g b d;simp only[ay]at h;obtain⟨⟨h1,C⟩,h3⟩:=h;rw[vz a b C,vz c d h3];cases f<;>cases g<;>simp only[OF]at h1<;>first|(cases h1;done)|skip
   all_goals rw[aJ h1]
 | .kI,b,h=>by cases b<;>simp only[V.beq]at h<;>first|(cases h;done)|rfl
 | .iface t x,b,h=>by
   cases b<;>simp only[V.beq]at h<;>first|(cases h;done)|skip
   rename_i u y;simp only[ay]at h;rw[aJ h.1,FF x y h.2]
 | .nilIface,b,h=>by cases b<;>simp only[V.beq]at h<;>first|(cases h;done)|rfl
 | .agg a,b,h=>by
   cases b<;>simp only[V.beq]at h<;>first|(cases h;done)|skip
   rw[vz _ _ h]
 | .gV a,b,h=>by
   cases b<;>simp only[V.beq]at h<;>first|(cases h;done)|skip
   rw[vz _ _ h]
 | .eE f n a,b,h=>by
   cases b<;>simp only[V.beq]at h<;>first|(cases h;done)|skip
   simp only[ay,cm]at h;rw[h.1,aJ h.2.1,uR _ _ h.2.2]
 | .dS a,b,h=>by
   cases b<;>simp only[V.beq]at h<;>first|(cases h;done)|skip
   rw[uR _ _ h]
theorem vz:∀(a b:ag),V.o4 a b=true->a=b
 | [],b,h=>by cases b<;>simp only[V.o4]at h<;>first|(cases h;done)|rfl
 |x::xs,b,h=>by
  cases b<;>simp only[V.o4]at h<;>first|(cases h;done)|skip
  simp only[ay]at h;rw[FF x _ h.1,vz xs _ h.2]
theorem Cu:∀(a b:Option (Nat×Nat)),qB a b=true->a=b
 |none,b,h=>by cases b<;>simp only[qB]at h<;>first|(cases h;done)|rfl
 |some (x,y),b,h=>by
  cases b<;>simp only[qB]at h<;>first|(cases h;done)|skip
  simp only[ay]at h;rw[aJ h.1,aJ h.2]
end
theorem yb{P:Program}{X i:Nat}{o:Oper}{T:I V}{v:V}{x:I es}(h:mD P X i o T v x=true):∃y,eA P o T x (X+i)=some (.val v y (X+i)):=by
 unfold mD at h;split at h
 . rename_i u y k e;simp only[ay]at h;have h1:=aJ h.1;have C:=FF _ _ h.2;subst h1;subst C;exact⟨y,e⟩
 . cases h
theorem M3{X i:Nat}{b:es}{l:af}{m:Nat}{x:I es}{iF:Nat}(h:eN iF i=false):gO X ((i,b)::l) m x iF=gO X l m x iF:=by
 simp[gO,h]
theorem Ev{P:Program}{X i:Nat}{o:Oper}{T:I V}{v:V}{dH:af}{iF:Nat}{h0:I es}{c0:Nat}{ee:List uw}:
  ∀k,k<=ee.length->pO P X i o T v dH iF (s9 h0 c0 ee k)=true->∀c,c<k->(∀(c':Nat) (e:uw),c<=c'->c'<k->ee[c']? =some e->eN iF e.1=false)->
   ∃y,eA P o T (gO X dH (eT h0 c0 ee c).1 (eT h0 c0 ee c).2.1 iF) (X+i)=some (.val v y (X+i))
 |0,_,_,c,N,_=>by omega
 |k+1,U,h,c,N,hn=>by
  have he:ee[k]? =some ee[k]:=au S;simp only[s9,he,pO]at h;have Y:=hn k ee[k] S S he;rw[Y]at h;simp only[aM,cA,ay]at h;by_cases q:c=k
  . subst q;exact yb h.1
  . exact Ev k S h.2 c S fun c' e h1 C h3=>hn c' e h1 S h3
theorem Cv{P:Program}{X:Nat}{dH:af}{m:Nat}{x:I es}:∀(l:List (Nat×Nat×Oper×I V×V)),o5 P X dH m x l=true->
  ∀j iF o T v,(j,iF,o,T,v)∈l->eN m j=false->∃y,eA P o T (gO X dH m x iF) (X+j)=some (.val v y (X+j))
 | [],_,j,iF,o,T,v,K,_=>by simp at K
 |(j',aws,o',fr',v')::l,h,j,iF,o,T,v,K,Y=>by
  simp only[o5,ay,cg]at h;rcases az.1 K with q|q
  . cases q;rcases h.1 with h1|h1
    . rw[Y]at h1;cases h1
    . exact yb h1
  . exact Cv l h.2 j iF o T v q Y
section
variable{P:Program}{cf:gm}{ops:Array Oper}{X hc:Nat}{h0:I es}{lp:I V}
theorem zA.mono{val iG:Nat->V}{j:Nat}{T:I V}(h:zA ops lp val j T)(hv:∀k,k<j->iG k=val k):zA ops lp iG j T:=
 ⟨fun i o t hi ho hd=>by rw[hv i hi];exact h.new i o t hi ho hd,h.old⟩
theorem zA.step{val iG:Nat->V}{i:Nat}{T fr':I V}{o:Oper}{v:V}(hr:lD ops hc)(ho:ops[i]? =some o)(h:zA ops lp val i T)(hv:∀k,k<i->iG k=val k)(hi:iG i=v)
  (e:jB T o.dst v=some fr'):zA ops lp iG (i+1) fr':=by
 have h':=h.mono hv;cases hd:o.dst with
 |none=>
  rw[hd]at e;simp only[jB,aq]at e;subst e;refine⟨fun k q t U hq ht=>?_,fun t ht=>h'.old t fun k q U hq=>ht k q S hq⟩;by_cases c:k=i
  . subst c;rw[ho]at hq;cases hq;rw[hd]at ht;cases ht
  . exact h'.new k q t S hq ht
 |some d=>
  rw[hd]at e;simp only[jB]at e;split at e
  . rename_i gX;obtain rfl:=eU e;refine⟨fun k q t U hq ht=>?_,fun t ht=>?_⟩
    . by_cases c:k=i
      . subst c;rw[ho]at hq;cases hq;rw[hd]at ht;cases ht;rw[I.o9 _ _ gX,hi]
      . have jw:t≠d:=by
         intro q';subst q';exact c (hr.one k i q o t hq ho ht hd)
        rw[I.wI _ _ gX jw];exact h'.new k q t S hq ht
    . have jw:t≠d:=by intro q;subst q;exact ht i o S ho hd
      rw[I.wI _ _ gX jw];exact h'.old t fun k q U hq=>ht k q S hq
  . cases e
theorem Xi{he:vy ops}{j i:Nat}(h:j<=i):eN (gT ops j) i=false:=by
 cases q:eN (gT ops j) i with
 |false=>rfl
 |true=>have:=JZ he j i q;omega
theorem rT.mono{val iG:Nat->V}{j:Nat}{o:Oper}{b:es}(h:rT P ops X lp val j o b)(hv:∀k,k<=j->iG k=val k):rT P ops X lp iG j o b:=by
 obtain⟨T,f1,f2,f3,f4,f6,f5⟩:=h;exact⟨T,f1.mono fun k U=>hv k S,f2,f3,f4,f6,fun y=>by rw[hv j (aK _)];exact f5 y⟩
theorem uQ.quiet{val iG:Nat->V}{dH k9:af}{reads wV:List (Nat×Nat×Oper×I V×V)}{ee:List uw}{j:Nat}{o:Oper}
  (h:uQ P cf ops X h0 lp val dH reads ee j o) (hv:∀k,k<=j->iG k=val k) (ha:∀x∈dH,x∈k9) (hr:∀x∈reads,x∈wV)
  (Ew:∀m x,gO X k9 m x (gT ops j)=gO X dH m x (gT ops j)):uQ P cf ops X h0 lp iG k9 wV ee j o:=by
 obtain⟨T,f1,f2⟩:=h;refine⟨T,f1.mono fun k U=>hv k S,?_⟩;have hj:=hv j (aK _);rw[hj];rcases f2 with q|⟨q1,q2,b,q3,q4,q5⟩|q|⟨q1,q2,q3,q4⟩|⟨q1,q2,c,h,n,q3,q4⟩
 . exact .inl q
 . exact .inr (.inl ⟨q1,q2,b,ha _ q3,q4,q5⟩)
 . exact .inr (.inr (.inl q))
 . refine .inr (.inr (.inr (.inl ⟨q1,q2,hr _ q3,fun c N h1 C=>?_⟩)));rw[Ew];exact q4 c N h1 C
 . refine .inr (.inr (.inr (.inr ⟨q1,q2,c,h,n,q3,?_⟩)));simp only[Ew];exact q4
theorem uQ.effect{val iG:Nat->V}{dH:af}{reads:List (Nat×Nat×Oper×I V×V)}{ee:List uw}{e:uw}{j:Nat}{o:Oper}
  (h:uQ P cf ops X h0 lp val dH reads ee j o) (hv:∀k,k<=j->iG k=val k) (mN:o5 P X dH e.2.1 e.2.2.1 reads=true):
  uQ P cf ops X h0 lp iG dH reads (ee++[e]) j o:=by
 obtain⟨T,f1,f2⟩:=h;refine⟨T,f1.mono fun k U=>hv k S,?_⟩;have hj:=hv j (aK _);rw[hj];rcases f2 with q|q|q|⟨q1,q2,q3,q4⟩|⟨q1,q2,c,h,n,q3,q4⟩
 . exact .inl q
 . exact .inr (.inl q)
 . exact .inr (.inr (.inl q))
 . refine .inr (.inr (.inr (.inl ⟨q1,q2,q3,fun c N h1 C=>?_⟩)));simp only[aH,aR,b9]at N;by_cases cl:c<=ee.length
   . rw[pY cl];refine q4 c cl (fun c' e' J0 Bc=>h1 c' e' J0 ?_) (fun c' e' J0 Bc=>C c' e' J0 ?_)
     . rw[bD (aO.1 Bc).1];exact Bc
     . rw[bD (aO.1 Bc).1];exact Bc
   . have xB:c=ee.length+1:=by omega
     subst xB;rw[wU];exact Cv reads mN j _ o T _ q3 (C ee.length e S (by simp))
 . have N:=(aO.1 q3).1;refine .inr (.inr (.inr (.inr ⟨q1,q2,c,h,n,by rw[bD N];exact q3,?_⟩)));rw[pY S];exact q4
theorem M4{val:Nat->V}{ee:List uw}{i:Nat}{d:Dr}(hr:lD ops hc)(f:mH P cf ops X h0 lp val ee i d)(hl:zi (gT ops i) d.last=true):
  ∀(c:Nat) (e:uw),ee[c]? =some e->eN (gT ops i) e.1=true:=by
 intro c e he;have N:=(aO.1 he).1;rw[f.last]at hl;have hg:ee.getLast? =some (ee[ee.length-1]'(by omega)):=by
  rw[List.getLast?_eq_getElem?,au]
 rw[hg]at hl;simp only[bu,zi]at hl;by_cases q:c=ee.length-1
 . subst q;rw[au S]at he;cases he;exact hl
 . exact Eu hr.wm i _ _ hl (f.chain (ee.length-1) c _ e S (au S) he)
theorem Ex{val:Nat->V}{ee:List uw}{i:Nat}{d d':Dr}{o:Oper}{v:V}{h:I es}{n:Nat}(hr:lD ops hc)(ho:ops[i]? =some o)(f:mH P cf ops X h0 lp val ee i d)
  (hw:gd ops o d.T=some true) (Cw:pN o.op=true) (hl:zi (gT ops i) d.last=true) (ha:kK P X i (gT ops i) o d v h n=some d')
  (K:oU (ops.toList.take (i+1))=d.eS++[gT ops i])
  (run:(eA P o d.T (gO X d.dH d.cur.1 d.cur.2 (gT ops i)) d.n=some (.val v h n)) \/
   ∃g args,eA P o d.T (gO X d.dH d.cur.1 d.cur.2 (gT ops i)) d.n=some (.call g args)/\cf g args (gO X d.dH d.cur.1 d.cur.2 (gT ops i)) d.n=some (.ret v,h,n)):
  ∃iG p8,mH P cf ops X h0 lp iG p8 (i+1) d':=by
 unfold kK at ha;split at ha
 . rename_i T hp;split at ha
   . rename_i mN;obtain rfl:=eU ha
     let iG:Nat->V:=fun k=>if k=i then v else val k
     have HW:iG i=v:=by simp[iG]
     have hv:∀k,k<i->iG k=val k:=fun k U=>by simp[iG,show k≠i by omega]
     refine⟨iG,ee++[(i,gT ops i,h,n)],?_⟩;have jl:(ee++[(i,gT ops i,h,n)]).length=ee.length+1:=by simp
     refine⟨K.symm,f.T.step hr ho hv HW hp,?_,?_,?_,by simp,?_,fun x J=>by have:=f.dH x J;omega,f.one,fun c e q he hq=>?_,fun j q b Y hq=>(f.Bt j q b Y hq).mono fun k U=>hv k (by have:=f.dH _ Y;simp at this;omega),?_,?_⟩
     . rw[jl,wU]
     . rw[jl,wU]
     . rw[jl];simp only[s9];rw[cT S];simp only[Nat.sub_self,cK];rw[pY (aK _),Az _ (aK _),<- f.oo,f.cur]
     . intro c e he;by_cases q:c<ee.length
       . rw[bD q]at he;obtain⟨h1,C⟩:=f.tS c e he;exact⟨S,C⟩
       . have N:=(aO.1 he).1;simp at N;have:c=ee.length:=by omega
         subst this;simp at he;subst he;exact⟨by simp,o,ho,Cw,rfl⟩
     . by_cases q2:c<ee.length
       . rw[bD q2]at he;obtain⟨h1,_⟩:=f.tS c e he;obtain⟨O6,g1,g2⟩:=f.zB c e q he hq;exact⟨O6,g1.mono fun k U=>hv k S,g2⟩
       . have N:=(aO.1 he).1;simp at N;have:c=ee.length:=by omega
         subst this;simp at he;subst he;simp only at hq;rw[ho]at hq;cases hq;exact⟨d.T,f.T.mono hv,hw⟩
     . intro c c' e e' O7 he Bc;have N:=(aO.1 he).1;simp at N;have J0:c'<ee.length:=by omega
       rw[bD J0]at Bc;by_cases q:c<ee.length
       . rw[bD q]at he;exact f.chain c c' e e' O7 he Bc
       . have:c=ee.length:=by omega
         subst this;simp at he;subst he;exact M4 hr f hl c' e' Bc
     . intro j q hj hq;by_cases c:j=i
       . subst c;rw[ho]at hq;cases hq;refine⟨d.T,f.T.mono hv,.inr (.inr (.inr (.inr ⟨hw,Cw,ee.length,h,n,by simp,?_⟩)))⟩;rw[pY (aK _),HW];have acm:=f.cur;have hn:=f.n;have e1:d.cur.1=(eT h0 (X+ops.size) ee ee.length).1:=by rw[acm]
         have e2:d.cur.2=(eT h0 (X+ops.size) ee ee.length).2.1:=by rw[acm]
         rw[e1,e2,hn]at run;exact run
       . exact(f.Xh j q S hq).effect (fun k U=>hv k S) mN
   . cases ha
 . cases ha
theorem Cx{val:Nat->V}{ee:List uw}{i:Nat}{d d':Dr}{o:Oper}(hr:lD ops hc)(ho:ops[i]? =some o)(f:mH P cf ops X h0 lp val ee i d)
  (e:lV P cf ops X i o d=some (.inl d')):∃iG p8,mH P cf ops X h0 lp iG p8 (i+1) d':=by
 have hi:i<ops.size:=(aU.1 ho).1;have Bd:fA d.eS o.after.toList=gT ops i:=by rw[f.eS];unfold gT;rw[ho]
 have K:oU (ops.toList.take (i+1))=d.eS++[gT ops i]:=by
  rw[Et (by rw[bP];exact ho),Cq,<- f.eS,Bd]
 unfold lV at e;simp only[Bd]at e;have vA:∀(v:V) (T:I V) (k9:af) (wV:List (Nat×Nat×Oper×I V×V)),jB d.T o.dst v=some T->(∀x∈d.dH,x∈k9)->(∀x∈d.reads,x∈wV)->
   (∀j m x,j<=i->gO X k9 m x (gT ops j)=gO X d.dH m x (gT ops j))->(∀x∈k9,x.1<i+1)->(∀j b b',(j,b)∈k9->(j,b')∈k9->b=b')->
   (∀iG,(∀k,k<i->iG k=val k)->iG i=v->∀b,(i,b)∈k9->rT P ops X lp iG i o b)->(∀x∈k9,x.1≠i->x∈d.dH)->
   (∀iG,(∀k,k<i->iG k=val k)->iG i=v->uQ P cf ops X h0 lp iG k9 wV ee i o)->
   ∃iG p8,mH P cf ops X h0 lp iG p8 (i+1) { d with T:=T,eS:=d.eS++[gT ops i],dH:=k9,reads:=wV }:=by
  intro v T k9 wV hp ha hrd Ew hai JN hal ai2 pV
  let iG:Nat->V:=fun k=>if k=i then v else val k
  have HW:iG i=v:=by simp[iG]
  have hv:∀k,k<i->iG k=val k:=fun k U=>by simp[iG,show k≠i by omega]
  refine⟨iG,ee,⟨K.symm,f.T.step hr ho hv HW hp,f.cur,f.n,f.oo,f.last,fun c e he=>?_,hai,JN,fun c e q he hq=>?_,fun j q b Y hq=>?_,f.chain,fun j q hj hq=>?_⟩⟩
  . obtain⟨h1,C⟩:=f.tS c e he;exact⟨S,C⟩
  . obtain⟨h1,_⟩:=f.tS c e he;obtain⟨O6,g1,g2⟩:=f.zB c e q he hq;exact⟨O6,g1.mono fun k U=>hv k S,g2⟩
  . by_cases c:j=i
    . subst c;rw[ho]at hq;cases hq;exact hal iG hv HW b Y
    . have DH:=ai2 _ Y c;exact(f.Bt j q b DH hq).mono fun k U=>hv k (by have:=f.dH _ DH;simp at this;omega)
  . by_cases c:j=i
    . subst c;rw[ho]at hq;cases hq;exact pV iG hv HW
    . exact(f.Xh j q S hq).quiet (fun k U=>hv k S) ha hrd fun m x=>Ew j m x S
 have e1:d.cur.1=(eT h0 (X+ops.size) ee ee.length).1:=by rw[f.cur]
 have e2:d.cur.2=(eT h0 (X+ops.size) ee ee.length).2.1:=by rw[f.cur]
 split at e
 . rename_i hw;split at e
   . rename_i T hp;simp only[aq,Sum.inl.injEq]at e;subst e;exact vA (.gV []) T d.dH d.reads hp (fun _ h=>h) (fun _ h=>h) (fun _ _ _ _=>rfl) (fun x J=>by have:=f.dH x J;omega) f.one (fun _ _ _ b Y=>by have:=f.dH _ Y;simp at this) (fun _ J _=>J)
      fun iG hv HW=>⟨d.T,f.T.mono hv,.inl ⟨hw,HW⟩⟩
   . cases e
 . rename_i hw;split at e
   . rename_i Cw;split at e
     . rename_i hl;split at e
       . rename_i v h n hs;split at e
         . rename_i R ha;simp only[aq,Sum.inl.injEq]at e;subst e;exact Ex hr ho f hw Cw hl ha K (.inl hs)
         . cases e
       . rename_i g args hs;split at e
         . rename_i v h n N;split at e
           . rename_i R ha;simp only[aq,Sum.inl.injEq]at e;subst e;exact Ex hr ho f hw Cw hl ha K (.inr ⟨g,args,hs,N⟩)
           . cases e
         . split at e
           . cases e
           . cases e
         . cases e
       . cases e
     . cases e
   . rename_i Cw;have HX:pN o.op=false:=by simpa using Cw
     split at e
     . rename_i v h k hs;split at e
       . rename_i T hp;have hq:=quiet HX hs;split at e
         . rename_i U;have qU:=aJ U;subst qU;split at e
           . rename_i acn;simp only[aq,Sum.inl.injEq]at e;subst e;obtain⟨u,h1,C⟩:=HS acn hs;cases h1;exact vA v T d.dH d.reads hp (fun _ h=>h) (fun _ h=>h) (fun _ _ _ _=>rfl) (fun x J=>by have:=f.dH x J;omega) f.one (fun _ _ _ b Y=>by have:=f.dH _ Y;simp at this) (fun _ J _=>J)
              fun iG hv HW=>⟨d.T,f.T.mono hv,.inr (.inr (.inl ⟨hw,HX,fun y=>by rw[HW];exact C y _⟩))⟩
           . split at e
             . rename_i oo;simp only[aq,Sum.inl.injEq]at e;subst e;refine vA v T d.dH ((i,gT ops i,o,d.T,v)::d.reads) hp (fun _ h=>h) (fun x J=>by simp[J]) (fun _ _ _ _=>rfl) (fun x J=>by have:=f.dH x J;omega) f.one (fun _ _ _ b Y=>by have:=f.dH _ Y;simp at this) (fun _ J _=>J)
                fun iG hv HW=>⟨d.T,f.T.mono hv,.inr (.inr (.inr (.inl ⟨hw,HX,by simp[HW],fun c N h1 _=>?_⟩)))⟩
               rw[HW];by_cases q:c=ee.length
               . subst q;rw[<- e1,<- e2];exact⟨h,hs⟩
               . rw[f.oo]at oo;exact Ev ee.length (aK _) oo c S fun c' e' q1 _ q3=>h1 c' e' q1 q3
             . cases e
         . rename_i U;split at e
           . rename_i b Y;split at e
             case isFalse=>cases e
             rename_i hwr;simp only[aq,Sum.inl.injEq]at e;subst e;rcases hq with⟨u,h1,_⟩|⟨u,b',h1,C,h3⟩
             . cases h1;exact absurd (Nat.beq_refl _) U
             . cases C;rw[I.o9 _ _ h1]at Y;cases Y;refine vA v T ((i,b)::d.dH) d.reads hp (fun x J=>by simp[J]) (fun _ h=>h) (fun j m x hj=>M3 (Xi (he:=hr.wm) hj)) (fun x J=>?_) (fun j c c' N J0=>?_) (fun iG hv HW c N=>?_) (fun x J jw=>?_)
                fun iG hv HW=>⟨d.T,f.T.mono hv,.inr (.inl ⟨hw,HX,b,by simp,h1,fun y=>by rw[HW];exact h3 y⟩)⟩
               . rcases az.1 J with rfl|J
                 . simp
                 . have:=f.dH x J;omega
               . rcases az.1 N with q|q<;>rcases az.1 J0 with q'|q'
                 . cases q;cases q';rfl
                 . cases q;have:=f.dH _ q';simp at this
                 . cases q';have:=f.dH _ q;simp at this
                 . exact f.one j c c' q q'
               . rcases az.1 N with q|q
                 . cases q;exact⟨d.T,f.T.mono hv,hw,HX,h1,hwr,fun y=>by rw[HW];exact h3 y⟩
                 . have:=f.dH _ q;simp at this
               . rcases az.1 J with q|q
                 . cases q;exact absurd rfl jw
                 . exact q
           . cases e
       . cases e
     . cases e
 . cases e
theorem wW(T:I V)(h:I es):mH P cf ops X h T (fun _=>.kI) [] 0 { T:=T,eS:=[],cur:=(0,h),oo:=[],last:=none,dH:=[],reads:=[],n:=X+ops.size }:=by
 refine⟨by simp[oU],⟨fun i o t hi=>by omega,fun t _=>rfl⟩,rfl,rfl,rfl,rfl,fun c e he=>by simp at he,fun x J=>by simp at J,fun j b b' Y=>by simp at Y,fun c e o he=>by simp at he,fun j o b Y=>by simp at Y,fun c c' e e' _ he=>by simp at he,fun j o hj=>by omega⟩
theorem Ey(hr:lD ops hc):∀(l:List Oper) (i:Nat) (d:Dr) (val:Nat->V) (ee:List uw) (r:Dr ⊕ (I V×V×I es×Nat)),l=ops.toList.drop i->mH P cf ops X h0 lp val ee i d->
  iV P cf ops X l i d=some r->
  match r with
  | .inl d'=>∃iG p8,mH P cf ops X h0 lp iG p8 (max i ops.size) d'
  | .inr x=>∃j o d' iG p8,ops[j]? =some o/\mH P cf ops X h0 lp iG p8 j d'/\lV P cf ops X j o d'=some (.inr x)
 | [],i,d,val,ee,r,hl,f,e=>by
   simp only[iV,aq]at e;subst e;have hi:ops.size<=i:=by
    have:=aI List.length hl;simp at this;omega
   rw[Nat.max_eq_left hi];exact⟨val,ee,f⟩
 |o::l,i,d,val,ee,r,hl,f,e=>by
  have hi:i<ops.size:=by
   have:=aI List.length hl;simp at this;omega
  have ho:ops[i]? =some o:=by
   have:=aI (fun x=>x[0]?) hl;simp at this;exact this.symm
  have hl':l=ops.toList.drop (i+1):=by
   have:=aI List.tail hl;simpa using this
  simp only[iV]at e;split at e
  . rename_i R hs;obtain⟨iG,p8,f'⟩:=Cx hr ho f hs;have:=Ey hr l (i+1) R iG p8 r hl' f' e;cases r with
    |inl d'=>rw[show max (i+1) ops.size=max i ops.size by omega]at this;exact this
    |inr x=>exact this
  . rename_i x J;cases r with
    |inl d'=>exact absurd e (J d')
    |inr y=>exact⟨i,o,d,val,ee,ho,f,e⟩
end
theorem Good.ext{E:Env}{h h':I es}{w:World}(g:Good E h w)(e:∀k,h'.get k=h.get k):Good E h' w:=g.sub fun m o q=>by rw[<- e];exact q
theorem jf.ext{E E':Env}{h h' C:I es}{w w':World}(u:jf E h w E' h' w')(e:∀k,C.get k=h'.get k):jf E h w E' C w':=
 ⟨u.le,u.good.ext e,u.size,u.tape,u.os,u.output,u.keep,fun m b s K q Y=>let⟨m0,s0,a1,a2,a3⟩:=u.vN m b s (by rw[<- e];exact K) q Y;⟨m0,s0,a1,a2,fun c=>a3 (OL (e m) c)⟩,u.Fm⟩
theorem jf.frame{E E':Env}{h x y z:I es}{w w':World}(g:Good E h w)(J:Sub x h)(u:jf E x w E' y w')
  (hz:∀k,z.get k=match y.get k with|some o=>some o|none=>if x.get k=none then h.get k else none):jf E h w E' z w':=by
 have rest:∀k o,h.get k=some o->x.get k=none->∃b s,E.ι k=some (b,s)/\E'.ι k=some (b,s)/\E'.β b=E.β b/\b<w.heap.size/\w'.heap[b]? =w.heap[b]?/\(∀m R,ff y m->E'.ι m≠some (b,R))/\(o.wr=true->∀m R,y.get m≠none->E'.ι m≠some (b,R))/\nJ E w b s o:=by
  intro k o U hxk;obtain⟨b,s,h1,C⟩:=g.rel k o U;have Y:=g.qt k b s h1;have jw:∀m,x.get m≠none->m≠k:=by intro m K e;subst e;exact K hxk
  have Aw:∀m R,ff x m->E.ι m≠some (b,R):=by
   intro m R K q;exact g.inj m k b R s (jw m K.live) (iC J K) (by rw[U];simp) q h1
  have ai4:o.wr=true->∀m R,x.get m≠none->E.ι m≠some (b,R):=by
   intro ho m R K q;exact g.inj k m b s R (fun e=>jw m K e.symm) ⟨o,U,ho⟩ (pS J K) h1 q
  refine⟨b,s,h1,(u.le.nm k b s h1).1,(u.le.nm k b s h1).2,Y,u.keep b Y Aw,?_,?_,C⟩
  . intro m R K q;obtain⟨m0,s0,a1,a2,a3⟩:=u.vN m b R K.live q Y;exact Aw m0 s0 (a3 K) a2
  . intro ho m R K q;obtain⟨m0,s0,a1,a2,a3⟩:=u.vN m b R K q Y;exact ai4 ho m0 s0 a1 a2
 have zc:∀k o,z.get k=some o->y.get k=some o\/(y.get k=none/\x.get k=none/\h.get k=some o):=by
  intro k o q;rw[hz]at q;split at q
  . rename_i o' hy;cases q;exact .inl hy
  . rename_i hy;split at q
    . rename_i Sy;exact .inr ⟨hy,Sy,q⟩
    . cases q
 have old:∀k o b s,h.get k=some o->o.wr=true->x.get k=none->E.ι k=some (b,s)->∀c,E'.φ b≠some c:=by
  intro k o b s U ho hxk e c N;rcases u.Fm b c N with q|q|⟨m,R,q1,q2⟩
  . exact(g.jo b c q).2 k s ⟨o,U,ho⟩ e
  . have:=g.qt k b s e;omega
  . exact g.inj m k b R s (fun q=>by subst q;exact q1.live hxk) (iC J q1) (by rw[U];simp) q2 e
 refine⟨u.le,⟨?_,?_,u.good.qt,u.good.lj,fun b c N=>⟨(u.good.jo b c N).1,fun m s K e=>?_⟩⟩,u.size,u.tape,u.os,u.output,?_,?_,?_⟩
 case refine_3=>
  obtain⟨o,K,ho⟩:=K;rcases zc m o K with ym|⟨ym,Sy,hh⟩
  . exact(u.good.jo b c N).2 m s ⟨o,ym,ho⟩ e
  . obtain⟨b',t,h1,C,_⟩:=rest m o hh Sy;rw[C]at e;cases e;exact old m o b s hh ho Sy h1 c N
 case refine_6=>
  intro b c N;rcases u.Fm b c N with q|q|⟨m,s,q1,q2⟩
  . exact .inl q
  . exact .inr (.inl q)
  . exact .inr (.inr ⟨m,s,iC J q1,q2⟩)
 . intro m o K;rcases zc m o K with hy|⟨hy,Sy,K⟩
   . exact u.good.rel m o hy
   . obtain⟨b,s,h1,C,h3,h4,h5,h6,h6',h7⟩:=rest m o K Sy;exact⟨b,s,C,jG u.le h3 h5 h7⟩
 . intro m m' b s R jw K tP e e';obtain⟨o,K,ho⟩:=K;obtain⟨o',tP⟩:=bE.1 tP;rcases zc m o K with ym|⟨ym,Sy,hh⟩
   . rcases zc m' o' tP with ym'|⟨ym',Xj,hh'⟩
     . exact u.good.inj m m' b s R jw ⟨o,ym,ho⟩ (by rw[ym'];simp) e e'
     . obtain⟨b',t,h1,C,h3,h4,h5,h6,h6',h7⟩:=rest m' o' hh' Xj;rw[C]at e';cases e';exact h6 m s ⟨o,ym,ho⟩ e
   . obtain⟨b',t,h1,C,h3,h4,h5,h6,h6',h7⟩:=rest m o hh Sy;rw[C]at e;cases e;rcases zc m' o' tP with ym'|⟨ym',Xj,hh'⟩
     . exact h6' ho m' R (by rw[ym'];simp) e'
     . obtain⟨b2,t2,k1,k2,_⟩:=rest m' o' hh' Xj;rw[k2]at e';cases e';exact g.inj m m' _ _ _ jw ⟨o,hh,ho⟩ (by rw[hh'];simp) h1 k1
 . intro b Y hn;exact u.keep b Y fun m s K=>hn m s (iC J K)
 . intro m b s K e Y;obtain⟨o,K⟩:=bE.1 K;have hw:ff z m->o.wr=true:=by rintro⟨o2,q1,q2⟩;rw[K]at q1;cases q1;exact q2
   rcases zc m o K with ym|⟨ym,Sy,hh⟩
   . obtain⟨m0,s0,a1,a2,a3⟩:=u.vN m b s (by rw[ym];simp) e Y;exact⟨m0,s0,pS J a1,a2,fun q=>iC J (a3 ⟨o,ym,hw q⟩)⟩
   . obtain⟨b',t,h1,C,_⟩:=rest m o hh Sy;rw[C]at e;cases e;exact⟨m,_,by rw[hh];simp,h1,fun q=>⟨o,hh,hw q⟩⟩
theorem Cy{X:Nat}{m:Nat}{x:I es}{iF k:Nat}:∀(l:af),(∀y∈l,X+y.1<gy)->
  (gO X l m x iF).get k=match l.find? (fun y=>Nat.beq (X+y.1) k&&eN iF y.1&& !eN m y.1)with|some y=>some y.2|none=>x.get k
 | [],_=>rfl
 |(i,o)::l,ht=>by
  have ih:=Cy (k:=k) (m:=m) (x:=x) (iF:=iF) l fun y hy=>ht y (by simp[hy]);simp only[gO];by_cases Y:(eN iF i&& !eN m i)=true
  . rw[aD Y,I.gw _ _ _ (ht (i,o) (by simp))];by_cases q:k=X+i
    . subst q;rw[aD rfl,List.find?_cons_of_pos (by simp only[Nat.beq_refl,aP];exact Y)]
    . rw[aA q,ih,List.find?_cons_of_neg];have:Nat.beq (X+i) k=false:=by
       cases hh:Nat.beq (X+i) k with
       |false=>rfl
       |true=>exact absurd (aJ hh).symm q
      simp[this]
  . rw[aA Y,ih,List.find?_cons_of_neg];intro q;simp only[Bool.and_assoc]at q;rw[ay]at q;exact Y q.2
section
variable{X m:Nat}{x:I es}
theorem ju{iF i:Nat}{b:es}{l:af}(ht:∀y∈l,X+y.1<gy)(one:∀(j:Nat) (b b':es),(j,b)∈l->(j,b')∈l->b=b')(hi:(i,b)∈l)
  (ha:eN iF i=true) (K:eN m i=false):(gO X l m x iF).get (X+i)=some b:=by
 rw[Cy l ht];cases hf:l.find? (fun y=>Nat.beq (X+y.1) (X+i)&&eN iF y.1&& !eN m y.1)with
 |none=>
  have:=List.find?_eq_none.1 hf (i,b) hi;simp[Nat.beq_refl,ha,K]at this
 |some y=>
  have h1:=List.mem_of_find?_eq_some hf;have C:=List.find?_some hf;simp only[ay]at C;have h3:=aJ C.1.1;have h4:y.1=i:=by omega
  obtain⟨y1,y2⟩:=y;simp only at h4;subst h4;simp only[one y1 y2 b h1 hi]
theorem nV{iF k:Nat}{l:af}(ht:∀y∈l,X+y.1<gy)(h:∀i b,(i,b)∈l->eN iF i=true->eN m i=false->k≠X+i):(gO X l m x iF).get k=x.get k:=by
 rw[Cy l ht];cases hf:l.find? (fun y=>Nat.beq (X+y.1) k&&eN iF y.1&& !eN m y.1)with
 |none=>rfl
 |some y=>
  have h1:=List.mem_of_find?_eq_some hf;have C:=List.find?_some hf;simp only[ay,bV]at C;exact absurd (aJ C.1.1).symm (h y.1 y.2 h1 C.1.2 C.2)
theorem jg{iF:Nat}{l:af}(ht:∀y∈l,X+y.1<gy)(one:∀(j:Nat) (b b':es),(j,b)∈l->(j,b')∈l->b=b')(k:Nat):
  (∃i b,(i,b)∈l/\eN iF i=true/\eN m i=false/\k=X+i/\(gO X l m x iF).get k=some b) \/
  ((∀i b,(i,b)∈l->eN iF i=true->eN m i=false->k≠X+i)/\(gO X l m x iF).get k=x.get k):=by
 by_cases h:∃i b,(i,b)∈l/\eN iF i=true/\eN m i=false/\k=X+i
 . obtain⟨i,b,h1,C,h3,rfl⟩:=h;exact .inl ⟨i,b,h1,C,h3,rfl,ju ht one h1 C h3⟩
 . have h':∀i b,(i,b)∈l->eN iF i=true->eN m i=false->k≠X+i:=fun i b h1 C h3 q=>h ⟨i,b,h1,C,h3,q⟩;exact .inr ⟨h',nV ht h'⟩
end
def HY(E:Env):n0->Exit->Prop
 | .normal,.normal=>True
 | .exit i,.exit j=>i=j
 | .ret,.ret=>True
 | .panic v,.panic chain=>∃v',eB E v v'/\chain=[{ v:=v',recovered:=false }]
 |_,_=>False
section
variable{P:Program}{cf:gm}{ops:Array Oper}{X hc ig:Nat}{h0:I es}{lp:I V}{val:Nat->V}{ee:List uw}{d:Dr}{E0:Env}{w0:World}{yc:List Deferred}
structure Inv(ops:Array Oper)(X hc ig:Nat)(h0:I es)(lp:I V)(val:Nat->V)(ee:List uw)(dH:af)(E0:Env)(w0:World)(yc:List Deferred)
  (dy:Nat->Bool) (ms hx:Nat) (E:Env) (a:Act) (w:World):Prop where
 bits:∀i,eN ms i=dy i
 O8:∀i,dy i=true->i<ig
 closed:∀(j:Nat) (o:Oper),dy j=true->ops[j]? =some o->∀e∈o.after,Region.binds .any e=true->dy e.on=true
 DY:∀(c:Nat) (e:uw),ee[c]? =some e->(dy e.1=true↔c<hx)
 Jle:hx<=ee.length
 f1:∀(j:Nat) (o:Oper) (t:Nat),dy j=true->ops[j]? =some o->o.dst=some t->∃v',a.tmps[t]? =some v'/\eB E (val j) v'
 f2:∀(t:Nat) (v:V),lp.get t=some v->(∀(j:Nat) (o:Oper),dy j=true->ops[j]? =some o->o.dst≠some t)->∃v',a.tmps[t]? =some v'/\eB E v v'
 Cl:jf E0 h0 w0 E (gO X dH (eT h0 (X+ops.size) ee hx).1 (eT h0 (X+ops.size) ee hx).2.1 ms) w
 old:∀k,k<X->E.ι k=E0.ι k
 rD:∀k p,E.ι k=some p->k<X\/(∃i b,(i,b)∈dH/\dy i=true/\k=X+i)\/(X+ops.size<=k/\k<(eT h0 (X+ops.size) ee hx).2.2)
 free:∀i,i<ops.size->eN (eT h0 (X+ops.size) ee hx).1 i=false->(eT h0 (X+ops.size) ee hx).2.1.get (X+i)=none
 DI:X+ops.size<=(eT h0 (X+ops.size) ee hx).2.2
 size:a.tmps.size=hc
 iE:a.defers=yc
theorem Inv.iF(hr:lD ops hc){dH:af}{dy:Nat->Bool}{ms hx:Nat}{E:Env}{a:Act}{w:World}(Tr:Inv ops X hc ig h0 lp val ee dH E0 w0 yc dy ms hx E a w){j k:Nat}(hj:dy j=true)(h:eN (gT ops j) k=true):dy k=true:=
 Cs hr.wm (dy:=fun i=>dy i=true) (fun j o hs ho e he Y=>Tr.closed j o hs ho e he Y) j k hj h
theorem rU(hr:lD ops hc){dy:Nat->Bool}(hS:∀(j:Nat) (o:Oper),dy j=true->ops[j]? =some o->∀e∈o.after,Region.binds .any e=true->dy e.on=true){j k:Nat}{o:Oper}(ho:ops[j]? =some o)
  (hd:∀e∈o.after,Region.binds .any e=true->dy e.on=true) (h:eN (gT ops j) k=true):dy k=true:=by
 obtain⟨e,h1,C,h3⟩:=(ya hr.wm ho).1 h;rcases h3 with rfl|h3
 . exact hd e h1 C
 . exact Cs hr.wm (dy:=fun i=>dy i=true) hS e.on k (hd e h1 C) h3
theorem Inv.acp(hr:lD ops hc)(f:mH P cf ops X h0 lp val ee ig d){dy:Nat->Bool}{ms hx:Nat}{E:Env}{a:Act}{w:World}
  (Tr:Inv ops X hc ig h0 lp val ee d.dH E0 w0 yc dy ms hx E a w) {i:Nat} (h:eN (eT h0 (X+ops.size) ee hx).1 i=true):dy i=true:=by
 cases hx with
 |zero=>simp[eT,jn]at h
 |succ c=>
  have N:c<ee.length:=by have:=Tr.Jle;omega
  have he:ee[c]? =some ee[c]:=au N;simp only[eT,he]at h;obtain⟨_,o,_,_,h3⟩:=f.tS c _ he;rw[h3]at h;exact Tr.iF hr ((Tr.DY c _ he).2 S) h
theorem Inv.use(hr:lD ops hc){dH:af}{dy:Nat->Bool}{ms hx:Nat}{E:Env}{a:Act}{w:World}(Tr:Inv ops X hc ig h0 lp val ee dH E0 w0 yc dy ms hx E a w)
  {j:Nat} {o:Oper} (ho:ops[j]? =some o) (hj:dy j=false) (hd:∀e∈o.after,Region.binds .any e=true->dy e.on=true) {T:I V} (hf:zA ops lp val j T) {t:Nat} (ht:t∈uG ops o) {v:V} (hv:T.get t=some v):
  ∃v',a.tmps[t]? =some v'/\eB E v v':=by
 by_cases h:∃i q,i<j/\ops[i]? =some q/\q.dst=some t
 . obtain⟨i,q,h1,C,h3⟩:=h;have hu:=hr.use i j q o t C ho S h3 ht;rw[aD h1]at hu;have hi:=rU hr Tr.closed ho hd hu;have:=hf.new i q t h1 C h3;rw[this]at hv;cases hv;exact Tr.f1 i q t hi C h3
 . have pW:=hf.old t fun i q hi hq hd=>h ⟨i,q,hi,hq,hd⟩;rw[pW]at hv;refine Tr.f2 t v hv fun i q hi hq LA=>?_;have jw:i≠j:=by intro e;subst e;rw[hj]at hi;cases hi
   have hu:=hr.use i j q o t hq ho jw LA ht;split at hu
   . rename_i eY;exact h ⟨i,q,eY,hq,LA⟩
   . have:=Tr.iF hr hi hu;rw[hj]at this;cases this
theorem Inv.uF(hr:lD ops hc){dH:af}{dy:Nat->Bool}{ms hx:Nat}{E:Env}{a:Act}{w:World}(Tr:Inv ops X hc ig h0 lp val ee dH E0 w0 yc dy ms hx E a w)
  {j:Nat} {o:Oper} (ho:ops[j]? =some o) (hj:dy j=false) (hd:∀e∈o.after,Region.binds .any e=true->dy e.on=true) {T:I V} (hf:zA ops lp val j T):∀x∈o.op.operands,nf E T a.eval x:=by
 intro x J v hv;cases x with
 |tmp t=>
  have ht:t∈uG ops o:=by
   unfold uG;refine List.mem_append_left _ (List.mem_filterMap.2 ⟨.tmp t,by simpa using J,rfl⟩)
  obtain⟨v',h1,C⟩:=Tr.use hr ho hj hd hf ht hv;simp only[Act.eval,bK,h1];exact C
 |const c=>exact zn hv
 |func f=>simp only[jc,aq]at hv;subst hv;exact⟨_,[],[],rfl,rfl,rfl,rfl⟩
 |global g=>exact Hp Tr.Cl.good.lj hv
theorem Inv.wanted(hr:lD ops hc){dH:af}{dy:Nat->Bool}{ms hx:Nat}{E:Env}{a:Act}{w:World}(Tr:Inv ops X hc ig h0 lp val ee dH E0 w0 yc dy ms hx E a w)
  {j:Nat} {o:Oper} (ho:ops[j]? =some o) (hj:dy j=false) (hd:∀e∈o.after,Region.binds .any e=true->dy e.on=true) {T:I V} (hf:zA ops lp val j T) {b:Bool} (e:gd ops o T=some b):
  Region.wanted o (yielded ops a.tmps)=b:=by
 refine wR (E:=E) (fun g Fh q t hg hq hdq v hv=>?_) e;have ht:t∈uG ops o:=by
  unfold uG;refine List.mem_append_right _ ?_;simp only[hg,hq,hdq];simp
 exact Tr.use hr ho hj hd hf ht hv
theorem Inv.frame(hr:lD ops hc){dH:af}{dy:Nat->Bool}{ms hx:Nat}{E E':Env}{a:Act}{w:World}(Tr:Inv ops X hc ig h0 lp val ee dH E0 w0 yc dy ms hx E a w)
  {j:Nat} {o:Oper} (ho:ops[j]? =some o) (mg:E.le E') {v':Value} (hv:eB E' (val j) v'):
  (∀(k:Nat) (q:Oper) (t:Nat),(dy k||decide (k=j))=true->ops[k]? =some q->q.dst=some t->∃v2,(a.put o.dst v').tmps[t]? =some v2/\eB E' (val k) v2)/\
  (∀(t:Nat) (v:V),lp.get t=some v->(∀(k:Nat) (q:Oper),(dy k||decide (k=j))=true->ops[k]? =some q->q.dst≠some t)->∃v2,(a.put o.dst v').tmps[t]? =some v2/\eB E' v v2):=by
 have FG:ng a.tmps.size o.dst:=by rw[Tr.size];exact hr.dst j o ho
 refine⟨fun k q t U hq ht=>?_,fun t v O3 ht=>?_⟩
 . by_cases c:k=j
   . subst c;rw[ho]at hq;cases hq;have:=FG t ht;exact⟨v',by simp[Act.put,ht,this],hv⟩
   . have qU:dy k=true:=by simpa[c]using U
     obtain⟨v2,h1,C⟩:=Tr.f1 k q t qU hq ht;refine⟨v2,?_,jF mg _ _ C⟩;cases hd:o.dst with
     |none=>exact h1
     |some u=>
      have jw:u≠t:=by intro e;subst e;exact c (hr.one k j q o u hq ho ht hd)
      simp[Act.put,jw,h1]
 . obtain⟨v2,h1,C⟩:=Tr.f2 t v O3 fun k q U hq=>ht k q (by simp[U]) hq;refine⟨v2,?_,jF mg _ _ C⟩;cases hd:o.dst with
   |none=>exact h1
   |some u=>
    have jw:u≠t:=by intro e;subst e;exact ht j o (by simp) ho hd
    simp[Act.put,jw,h1]
end
end Go.Eng
