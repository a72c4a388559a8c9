/- The engine, part I: conversions, make, append. No conditions: lemmas alone. -/
import Derived.Test.YtfihojpgobmmdaaGreatDoorJointW00
import Derived.Lib.UnsafeStr
import Derived.RangeFuncSeq
import Derived.TacticsIn
set_option linter.unusedVariables false
set_option linter.unusedSimpArgs false
set_option linter.unusedSectionVars false
namespace Go.Eng
open Go
section
variable{P:Program}{E:Env}{h:Tr O}{n:Nat}{w:World}
theorem Cg(s:aa):dI E (B3 s) (s.map fun b=>Value.int .u8 b.toNat):=by
 refine jD (by simp[B3]) fun i v q=>?_;simp only[B3,bt,Option.map_eq_some_iff]at q ⊢;obtain⟨b,q1,rfl⟩:=q;exact⟨_,⟨b,q1,rfl⟩,rfl⟩
theorem Ch(s:aa):(dV s).map (V.int .u8)=B3 s:=by simp[dV,B3]
theorem Ci{ks:List Int}{o cO:Nat}{vs:List Value}(r:dI E (((ks.map (V.int .u8)).drop o).take cO) vs):vs=((ks.drop o).take cO).map (Value.int .u8):=by
 rw[<- List.map_drop,<- cL]at r;revert r;generalize (ks.drop o).take cO=l;intro r
 induction l generalizing vs with
 |nil=>exact r
 |cons x l ih=>
  obtain⟨y,ys,r0,rs,rfl⟩:=r;simp only[dD]at r0;subst r0;rw[ih rs];rfl
theorem J2{m b s:Nat}{t:aa}(g:Good E h w)(hi:E.ι m=some (b,s))(e:uy (h.get m)=some t):∃c el fz xs,w.heap[b]? =some (.cells c el fz)/\s=0/\eN xs=t/\∀(j:Nat) (x:Int),xs[j]? =some x->c[j]? =some (.int .u8 x):=by
 unfold uy at e;split at e
 . rename_i el AH t' hm;cases e;obtain⟨b',s',zI,c,fz,xs,h1,h2,_,_,h3,h4⟩:=g.rel m _ hm;rw[hi]at zI;cases zI;exact⟨c,el,fz,xs,h1,h2,h3,h4⟩
 . cases e
theorem Nt{m b s:Nat}{ks:List Int}(g:Good E h w)(hi:E.ι m=some (b,s))(e:AI (h.get m)=some ks):∃c el fz,w.heap[b]? =some (.cells c el fz)/\l7 E s (ks.map (.int .u8)) c:=by
 unfold AI at e;split at e
 . rename_i Xi hm;cases e;obtain⟨b',s',zI,c,el,fz,h1,_,_,h2⟩:=g.rel m _ hm;rw[hi]at zI;cases zI;exact⟨c,el,fz,h1,h2⟩
 . rename_i Xi hm;cases e;obtain⟨b',s',zI,c,el,fz,h1,_,h2⟩:=g.rel m _ hm;rw[hi]at zI;cases zI;exact⟨c,el,fz,h1,mM.2 h2⟩
 . cases e
theorem Cj:∀(bs:ag) (s:aa) (bs':List Value),qP bs=some s->dI E bs bs'->
  ∃ns:List Int,bs'=ns.map (Value.int .u8)/\s=ns.map fun n=>UInt8.ofNat n.toNat
 | [],s,bs',e,r=>by
   simp only[qP,an]at e;subst e;simp only[dI]at r;subst r;exact⟨[],rfl,rfl⟩
 |x::xs,s,bs',e,r=>by
  obtain⟨y,ys,rx,rs,rfl⟩:=r;cases x with
  |int k m=>
   cases k<;>simp only[qP]at e<;>first|(cases e;done)|skip
   cases hx:qP xs with
   |none=>simp[hx]at e
   |some t=>
    simp only[hx,an]at e;subst e;simp only[dD]at rx;subst rx;obtain⟨ns,h1,h2⟩:=Cj xs t ys hx rs;exact⟨m::ns,by simp[h1],by simp[h2]⟩
  |_=>simp[qP]at e
theorem s9:∀(ns:List Int) (r:ByteArray),ns.foldl (fun r n=>r.push (UInt8.ofNat n.toNat)) r=⟨r.data++(ns.map fun n=>UInt8.ofNat n.toNat).toArray⟩
 | [],r=>by simp
 |n::ns,r=>by
  simp only[List.foldl_cons];rw[s9 ns];simp[ByteArray.push]
theorem J3{LY dst:TypeId}{x:V}{x':Value}{r:R}(g:Good E h w)(hn:E.ι n=none)(rx:dD E x x')(e:qg P LY dst x h n=some r):
  ki P E h n w (do pure (.value (<- convert LY dst x'))) r:=by
 unfold qg at e;split at e
 . rename_i d k k' m h1 h2;obtain rfl:=eo e;simp only[dD]at rx;subst rx;refine dS g (v':=.int k (k.wrap m)) ?_ rfl;simp[convert,dr h1,dr h2,Conv.intToInt]
 . rename_i d s h1 h2;obtain rfl:=eo e;simp only[dD]at rx;subst rx;refine dS g (v':=.string ⟨s.toArray⟩) ?_ rfl;simp[convert,dr h1,dr h2]
 . rename_i el s h1 h2;simp only[dD]at rx;subst rx;split at e
   . rename_i hu;cases ho:newObj h n (.own .u8 (dV s))with
     |none=>simp[ho]at e
     |some p=>
      obtain⟨h',n'⟩:=p;simp only[ho,an]at e;subst e;have lW:(⟨s.toArray⟩:ByteArray).size=s.length:=by show s.toArray.size=_;simp
      have fK:=run_bytes_of_string w LY dst el ⟨s.toArray⟩ h1 h2 hu;rw[lW]at fK;have nF:s.length<=grownCap w s.length 0 el:=by simp only[grownCap,Question.cut];omega
      have hc:(bytesRow ⟨s.toArray⟩ (grownCap w s.length 0 el)).size=grownCap w s.length 0 el:=by simp[bytesRow,lW];omega
      refine HD (r:=.is .u8 (dV s)) (w1:=w.drew) (c:=bytesRow ⟨s.toArray⟩ (grownCap w s.length 0 el)) (el:=el) (fz:=((bytesRow ⟨s.toArray⟩ (grownCap w s.length 0 el)).size,(bytesRow ⟨s.toArray⟩ (grownCap w s.length 0 el)).size+1)) (v':=.slice (some ⟨w.heap.size,0,none⟩) s.length (grownCap w s.length 0 el)) g hn trivial ho rfl rfl rfl rfl ?_ ?_ ?_ ?_
      . intro i hi q;simp at q;omega
      . simp only[Sem.run_bind,fK,Result.andThen_ok,Sem.run_pure]
      . intro i v q;obtain⟨v',q1,q2⟩:=gD (Cg (E:=E) s) i v (by rw[<- Ch];exact q);refine⟨v',?_,q2⟩;simp only[bytesRow,bI];rw[bS (by simpa using (aF.1 q1).1)];simpa using q1
      . refine⟨w.heap.size,0,0,grownCap w s.length 0 el,Env.fa,fun _=>rfl,aA _,nF,?_,rfl⟩;simp[Env.put,hc]
   . cases e
 . rename_i el f cs h1 h2;have hx:∃a cP,x'= .slice a 0 cP:=by obtain⟨a,cP,_,hx,_⟩:=rx.1;exact⟨a,cP,hx⟩
   obtain⟨a,cP,rfl⟩:=hx;split at e
   . rename_i hu;obtain rfl:=eo e;refine dS g (v':=.string .empty) ?_ rfl;cases a<;>simp[convert,dr h1,dr h2,dr hu,Conv.bytesToString,loadCells,loadCellsFrom]
   . cases e
 . rename_i el _ _ _ h1 h2;obtain⟨_,_,rfl⟩:=rx;split at e
   . rename_i hu;obtain rfl:=eo e;refine dS g (v':=.string .empty) ?_ rfl;simp[convert,dr h1,dr h2,dr hu,Conv.bytesToString]
   . cases e
 . rename_i el m o cO cP jx h1 h2;split at e
   . rename_i hu;split at e
     . rename_i TB;subst TB;obtain⟨b,sh,o',gj,hi,c1,c2,c3,c4,rfl⟩:=rx;split at e
       . rename_i s0 hm;split at e
         . rename_i kE;obtain rfl:=eo e;obtain⟨c,Xk,fz,xs,wF,YP,Ck,EC⟩:=J2 g hi hm;subst YP;refine dS g (v':=.string ⟨((s0.drop o).take cO).toArray⟩) ?_ rfl;rcases Nat.eq_zero_or_pos cO with vS|YQ
           . subst vS;simp[convert,dr h1,dr h2,dr hu,Conv.bytesToString,loadCells,loadCellsFrom];rfl
           . have kE:o+cO<=s0.length:=kE.resolve_left be;have TC:xs.length=s0.length:=by rw[<- Ck];simp[eN]
             have D9:o'=0+o:=c1 be;subst D9;have ac9:l7 E 0 (xs.map (.int .u8)) c:=mM.2 (by simpa using EC);have hb:=nY ac9 (k:=o+cO) be (by simp;omega);have Xl:=run_loadCells (P:=P) (o:=0+o) (n:=cO) wF be;rw[Ci (nZ ac9 (by simp;omega) be)]at Xl;rw[Sem.run_bind,run_convert_bytes_string w LY dst el _ cO gj h1 hu h2,run_bytesToString w _ cO gj _ Xl,s9];simp[<- Ck,eN,cL,List.map_drop]
         . cases e
       . split at e
         . rename_i ks hm;split at e
           . rename_i kE;obtain rfl:=eo e;obtain⟨c,Xk,fz,wF,EC⟩:=Nt g hi hm;refine dS g (v':=.string ⟨(eN ((ks.drop o).take cO)).toArray⟩) ?_ rfl;rcases Nat.eq_zero_or_pos cO with vS|YQ
             . subst vS;simp[convert,dr h1,dr h2,dr hu,Conv.bytesToString,loadCells,loadCellsFrom,eN];rfl
             . have kE:o+cO<=ks.length:=kE.resolve_left be;have D9:o'=sh+o:=c1 be;subst D9;have hb:=nY EC (k:=o+cO) be (by simpa using kE);have Xl:=run_loadCells (P:=P) (o:=sh+o) (n:=cO) wF be;rw[Ci (nZ EC (by simpa using kE) be)]at Xl;rw[Sem.run_bind,run_convert_bytes_string w LY dst el _ cO gj h1 hu h2,run_bytesToString w _ cO gj _ Xl,s9];simp[eN]
           . cases e
         . split at e
           . obtain rfl:=eo e;refine dS g (v':=.string .empty) ?_ rfl;simp[convert,dr h1,dr h2,dr hu,Conv.bytesToString,loadCells,loadCellsFrom]
           . rename_i vS;split at e
             . rename_i cs hm;cases hc:cut cs o cO with
               |none=>simp[hc]at e
               |some bs=>
                simp only[hc]at e;cases ht:qP bs with
                |none=>simp[ht]at e
                |some s=>
                 simp only[ht,an]at e;subst e;obtain⟨kE,rfl⟩:=zS hc;have YQ:0<cO:=by
                  cases cO with
                  |zero=>exact absurd rfl vS
                  |succ _=>omega
                 have D9:o'=sh+o:=c1 be;subst D9;obtain⟨b',sh',zI,c,Xk,fz,wF,_,_,EC⟩:=g.rel m _ hm;rw[hi]at zI;cases zI;have hb:=nY EC (k:=o+cO) be kE;have Xl:=run_loadCells (P:=P) (o:=sh+o) (n:=cO) wF be;obtain⟨ns,n1,n2⟩:=Cj _ s _ ht (nZ EC kE be);rw[n1]at Xl;refine dS g (v':=.string ⟨s.toArray⟩) ?_ rfl;rw[Sem.run_bind,run_convert_bytes_string w LY dst el _ cO gj h1 hu h2,run_bytesToString w _ cO gj ns Xl,s9,<- n2];simp
             . cases e
     . cases e
   . cases e
 . cases e
theorem EE{t:TypeId}{i:TypeInfo}{z:V}(hi:P.info? t=some i)(hz:zeroOf P t=some z):∃z',i.zero=some z'/\(zeroValue t).run P w= .ok z' w/\dD E z z':=by
 obtain⟨z',h1,h2,i',h3,h4⟩:=l8 (P:=P) (w:=w) E hz;rw[hi]at h3;cases h3;exact⟨z',h4,h1,h2⟩
theorem HI(k:IntKind)(ks:List Int):∀n,(ud ks n).map (V.int k)=gQ (ks.map (V.int k)) n
 |0=>rfl
 |n+1=>by rw[ud,gQ,aX,HI k ks n]
theorem PM{z z':ag}(h:wk z z'):∀n,wk (gQ z n) (gQ z' n)
 |0=>iM _
 |n+1=>zP h (PM h n)
theorem HJ(ds:ai):∀n,D.lT (Bk ds n)=gQ (D.lT ds) n
 |0=>rfl
 |n+1=>by rw[Bk,gQ,<- HJ ds n,D.gx,D.gx,D.gx,aX]
theorem L0{ds:ai}(h:∀x∈ds,x.scalar=true):∀n,∀x∈Bk ds n,x.scalar=true
 |0,x,hx=>by simp[Bk]at hx
 |n+1,x,hx=>(aT.1 hx).elim (h x) (L0 h n x)
theorem Cl(z:ag)(n:Nat):wk (gQ z n) (vK z n).iJ/\(vK z n).sc:=by
 have key:∀z:ag,wk (gQ z n) (match ia z with|some ds=>Row.ds (Bk ds n)|none=>Row.vs (gQ z n)).iJ/\(match ia z with|some ds=>Row.ds (Bk ds n)|none=>Row.vs (gQ z n)).sc:=by
  intro z;split
  . rename_i ds h;refine⟨?_,L0 (nX h) n⟩;simp only[Row.iJ,HJ];exact PM (yl h) n
  . exact⟨iM _,trivial⟩
 unfold vK;split
 . rename_i k x r;split
   . rename_i ks h;refine⟨?_,trivial⟩;rw[pZ h];simp only[Row.iJ,HI];exact iM _
   . exact key _
 . exact key _
theorem F4{t:TypeId}{l c:V}{l' c':Value}{r:R}(g:Good E h w)(hn:E.ι n=none)(rl:dD E l l')(rc:dD E c c')(e:nT P t l c h n=some r):
  ki P E h n w (do pure (.value (<- Instr.makeSlice t l' c'))) r:=by
 unfold nT at e;split at e
 . rename_i el k l k' c he;simp only[dD]at rl rc;subst rl;subst rc;split at e
   . rename_i i z hi hz;simp only at e;split at e
     . rename_i hq;obtain⟨q1,q2,q3,q4,q5⟩:=hq;cases ho:newObj h n (vK z.cells (IntKind.i64.wrap c).toNat).EA with
       |none=>simp[ho]at e
       |some p=>
        obtain⟨h',n'⟩:=p;simp only[ho,an]at e;subst e;obtain⟨z',O9,Nu,hz3⟩:=EE (P:=P) (E:=E) (w:=w) hi hz;have hzc:=ig hz3;have PE:=Ce hzc be (IntKind.i64.wrap c).toNat;rw[q2]at PE;generalize hC:(IntKind.i64.wrap c)=C at *;generalize hL:(IntKind.i64.wrap l)=L at *;have hu:=HF he;have lW:(sizeOf el).run P w= .ok i.size w:=by simp[sizeOf,typeInfo,hi]
        refine sX (w1:=w) (c:=(Array.range (C.toNat*i.size)).map (z'.cells[·%z'.cells.size]!)) (el:=el) (v':=.slice (some ⟨w.heap.size,0,none⟩) L.toNat C.toNat) g hn (Cl _ _).2 ho rfl rfl rfl rfl ?_ (by refine yn (Cl _ _).1 ?_;exact oy PE) ?_
        . have PN:¬((i.bytes:Int)*C>2^48):=by omega
          simp only[Instr.makeSlice,Sem.run_bind,dr hu,Result.andThen_ok,asInt,asIntOf,Sem.run_pure,typeInfo,run_program,hi,hC,hL];rw[aI (by simp;omega)];simp only[Sem.run_bind,run_askRoom,Result.andThen_ok,lW,Sem.run_ite,Sem.run_pure,Nu];by_cases h0:C.toNat*i.size=0
          . rw[aG h0];have e0:∀f:Nat->Value,Array.map f (Array.range 0)=#[]:=fun f=>by apply Array.ext' ;simp
            simp[h0,newRow,e0]
          . rw[aI h0];simp[newRow]
        . refine⟨w.heap.size,0,0,C.toNat,Env.fa,fun _=>rfl,be,aA _,?_,rfl⟩;simp[Env.put]
     . cases e
   . cases e
 . cases e
theorem HK{size k:Nat}{x:V}{new:Row}{x':Value}(g:Good E h w)(r:dD E x x')(e:jz h size x=some (k,new)):
  (∀w1:World,(Builtin.lenOf x').run P w1= .ok k w1)/\new.iJ.length=k*size/\new.sc/\
   ∃kA:Array Value,(∀w1:World,w1.heap=w.heap->(Builtin.firstCells size k x').run P w1= .ok kA w1)/\dI E new.iJ kA.toList:=by
 unfold jz at e;split at e
 . rename_i cO _ _;split at e
   . rename_i hl;obtain⟨rfl,rfl⟩:=fc e;obtain⟨_,_,rfl⟩:=r;exact⟨fun _=>rfl,by simp[Row.iJ],trivial,#[],fun _ _=>rfl,by simp[dI,Row.iJ]⟩
   . cases e
 . rename_i m o cO cP jx;split at e
   . rename_i TB;subst TB;obtain⟨b,sh,o',gj,hi,c1,c2,c3,c4,rfl⟩:=r;split at e
     . obtain⟨rfl,rfl⟩:=fc e;refine⟨fun _=>rfl,by simp[Row.iJ],trivial,#[],fun _ _=>?_,by simp[dI,Row.iJ]⟩;simp[Builtin.firstCells,loadCells,loadCellsFrom]
     . rename_i vS;split at e
       . rename_i ob hm;split at e
         . rename_i rw0 xm;cases s7:rw0.cut o (cO*jx)with
           |none=>simp[s7]at e
           |some x=>
            simp only[s7,an,aB]at e;obtain⟨rfl,rfl⟩:=e;obtain⟨kE,hx⟩:=zS (Row.FV s7);have YQ:0<cO:=by
             cases cO with
             |zero=>exact absurd rfl vS
             |succ _=>omega
            have D9:o'=sh+o:=c1 be;subst D9;obtain⟨b',sh',zI,q0⟩:=g.rel m _ hm;obtain⟨⟨c,Xk,fz,wF,lW,EC⟩,JV⟩:=Np xm q0;rw[hi]at zI;cases zI;have zU:sh+o+cO*jx<=c.size:=by
             have:cO*jx<=gj*jx:=cq _ be;omega
            refine⟨fun _=>rfl,by rw[hx];simp;omega,Row.Pw s7 JV,((c.toList.drop (sh+o)).take (cO*jx)).toArray,fun w1 Hi=>?_,by rw[hx];simpa using nZ EC kE zU⟩;simp only[Builtin.firstCells];exact run_loadCells (by rw[Hi];exact wF) zU
         . cases e
       . cases e
   . cases e
 . rename_i s;split at e
   . rename_i fS;obtain⟨rfl,rfl⟩:=fc e;simp only[dD]at r;subst r;have lW:(⟨s.toArray⟩:ByteArray).size=s.length:=by show s.toArray.size=_;simp
     refine⟨fun _=>?_,by simp[dV,fS,Row.iJ],trivial,(s.map fun b=>Value.int .u8 b.toNat).toArray,fun w1 _=>?_,by simp only[Row.iJ,Ch];exact Cg s⟩
     . simp[Builtin.lenOf,lW]
     . simp only[Builtin.firstCells,Sem.run_pure];congr 1;apply Array.ext';simp
   . cases e
 . rename_i f cO cs;split at e
   . rename_i hl;obtain⟨rfl,rfl⟩:=fc e;obtain⟨⟨a,cP,vs,rfl,nF,hd,h0,mF⟩,_⟩:=r;have hvl:=pM hd;refine⟨fun _=>rfl,by simp only[Row.iJ,D.gx,aY];exact hl,jc hd,vs.toArray,fun w1 Hi=>?_,by simpa[Row.iJ]using vN _ _ hd⟩;rcases Nat.eq_zero_or_pos cO with hz|hp
     . have:=h0 hz;subst this;have hv:vs=[]:=by simpa using hvl
       subst hv;subst hz;cases a<;>simp[Builtin.firstCells,loadCells,loadCellsFrom]
     . obtain⟨b,o,c,rfl,Bz,hc⟩:=mF hp;obtain⟨⟨el,fz,wF⟩,_⟩:=g.gP b c Bz;have ada:(c.toList.drop o).take (cO*size)=vs:=by
        apply List.ext_getElem?;intro j;rw[bO,bH];by_cases hj:j<cO*size
        . rw[aG hj];have YR:j<vs.length:=by omega
          have:=hc j _ (ay YR);rw[ay YR,<- this];simp
        . rw[aI hj,bR be]
       simp only[Builtin.firstCells];rcases Nat.eq_zero_or_pos (cO*size)with q|q
       . have hn:vs=[]:=by simpa[hl,q]using hvl
         subst hn;rw[q];rfl
       . have zU:o+cO*size<=c.size:=by
          have:((c.toList.drop o).take (cO*size)).length=cO*size:=by rw[ada];omega
          simp at this;omega
         rw[run_loadCells (by rw[Hi];exact wF) zU,ada]
   . cases e
 . cases e
end
section
variable{P:Program}{E:Env}{h:Tr O}{n:Nat}{w:World}
theorem nk(z:Array Value)(k:Nat):(Builtin.zeroCells z k).size=k*z.size:=by simp[Builtin.zeroCells]
theorem Cm{Nn size bytes:Nat}(q:eT Nn size bytes=true):Nn*bytes<=281474976710/\Nn*size<=281474976710:=by
 simpa[eT]using q
theorem tU{b o:Nat}{el:TypeId}{fz:Nat×Nat}:∀(vs:List Value) (i:Nat) (w:World) (c:Array Value),w.heap[b]? =some (.cells c el fz)->
  (∀j,o+i<=j->j<o+i+vs.length->¬(fz.1<=j/\j<fz.2))->(∀v∈vs,v.oneCell'=true)->o+i+vs.length<=c.size->
  ∃w',(storeCells ⟨b,o,none⟩ vs i).run P w= .ok () w'/\w'.heap[b]? =some (.cells (putCells c (o+i) vs) el fz)/\w'.heap.size=w.heap.size/\w'.tape=w.tape/\w'.os=w.os/\w'.output=w.output/\
   ∀x,x≠b->w'.heap[x]? =w.heap[x]?
 | [],i,w,c,h,_,_,hn=>by
   refine⟨w,rfl,?_,rfl,rfl,rfl,rfl,fun _ _=>rfl⟩;rw[h];have:putCells c (o+i) []=c:=by simp[putCells]
   rw[this]
 |v::vs,i,w,c,h,hf,hv,hn=>by
  simp only[aS]at hn hf;have fF:o+i<c.size:=by omega
  have hnf:w.frozen? ⟨b,o+i,none⟩=false:=by
   have:=hf (o+i) (aA _) be;simp only[World.frozen?,h];simpa using this
  let w1:=w.setCell ⟨b,o+i,none⟩ v
  have Hi:w1.heap[b]? =some (.cells (c.setIfInBounds (o+i) v) el fz):=by
   simp[w1,World.setCell,cm,h]
  obtain⟨w',e1,e2,e3,e4,e5,e6,e7⟩:=tU (o:=o) vs (i+1) w1 (c.setIfInBounds (o+i) v) Hi (fun j h1 h2=>hf j be be) (fun v hv'=>hv v (by simp[hv'])) (by simp only[Array.size_setIfInBounds];omega);refine⟨w',?_,?_,by rw[e3];simp[w1],by rw[e4];rfl,by rw[e5];rfl,by rw[e6];rfl,?_⟩
  . simp only[storeCells,Sem.run_bind];rw[run_store P w _ v .plain (hv v (by simp)),Addr.iX,nh h,bn fF];simp only[hnf,aO,cG,Result.andThen_ok];exact e1
  . rw[e2];have:o+(i+1)=o+i+1:=by omega
    rw[this,rC be]
  . intro x hx;rw[e7 x hx];simp[w1,World.setCell,cm,Ne.symm hx]
theorem yB:∀{l:ag} {t:aa},uD l=some t->∃xs:List Int,l=xs.map (.int .u8)/\eN xs=t
 | [],t,h=>by simp only[uD,an]at h;subst h;exact⟨[],rfl,rfl⟩
 |v::r,t,h=>by
  unfold uD at h;split at h
  . rename_i q;cases q
  . rename_i x r' q;cases q;split at h
    . rename_i l hl;obtain rfl:=eo h;obtain⟨xs,h1,h2⟩:=yB hl;exact⟨x::xs,by rw[h1];rfl,by rw[<- h2];rfl⟩
    . cases h
  . cases h
theorem F5{r:Row}{t:aa}(h:uE r=some t):∃xs:List Int,r.iJ=xs.map (.int .u8)/\eN xs=t:=by
 unfold uE at h;split at h
 . rename_i ks;cases h;exact⟨ks,rfl,rfl⟩
 . exact yB h
 . cases h
theorem Nv{xs:List Int}{l:List Value}(r:dI E (xs.map (.int .u8)) l):l=xs.map (.int .u8):=by
 induction xs generalizing l with
 |nil=>exact r
 |cons x xs ih=>
  obtain⟨y,ys,r0,rs,rfl⟩:=r;simp only[dD]at r0;subst r0;rw[ih rs];rfl
theorem gk:∀t:aa,eN (dV t)=t
 | []=>rfl
 |b::r=>by
  have ih:=gk r;simp only[eN,dV,bN,List.map_map]at ih ⊢;rw[ih];simp
theorem uN(xs:List Int):(eN xs).length=xs.length:=by simp[eN]
section
variable{st xt el ty:TypeId}{xd:TypeDesc}{i:TypeInfo}
theorem lO{z':Value}(hu:P.underlying st=some (.slice el))(hx:P.underlying xt=some xd)(Nw:(∃y,xd= .slice y)\/xd= .string)
  (hi:P.info? el=some i) (hz:i.zero=some z') {base:Option Addr} {sLen sCap k:Nat} {x':Value} {old new:Array Value}
  (iS:∀w1:World,(Builtin.lenOf x').run P w1= .ok k w1) (oD:∀w1:World,w1.heap=w.heap->(Builtin.firstCells i.size sLen (.slice base sLen sCap)).run P w1= .ok old w1)
  (sV:∀w1:World,w1.heap=w.heap->(Builtin.firstCells i.size k x').run P w1= .ok new w1)
  (nF:sCap<sLen+k) (hb:0<i.bytes) (qV:(sLen+k)*i.bytes<=281474976710):
  (Builtin.append_ #[st,xt] ty #[.slice base sLen sCap,x']).run P w=
   .ok (.slice (some ⟨w.heap.size,0,none⟩) (sLen+k) (grownCap w (sLen+k) sCap el))
    (w.drew.alloc (.cells (old++new++Builtin.zeroCells z'.cells (grownCap w (sLen+k) sCap el-(sLen+k))) el)):=by
 have Nx:Builtin.nextslicecap (sLen+k) sCap*i.bytes<=281474976710656:=growslice_fits nF be;have tV:¬(sLen+k<=sCap):=by omega
 have Xm:¬(281474976710656<Builtin.nextslicecap (sLen+k) sCap*i.bytes):=by omega
 have Hl:¬(i.bytes=0):=by omega
 have ho:=oD w.drew rfl;have hn:=sV w.drew rfl;rcases Nw with⟨y,rfl⟩|rfl
 . simp[Builtin.append_,dr hu,dr hx,sizeOf,typeInfo,zeroValue,hi,hz,iS,tV,Xm,Hl,Question.forced,newRow,grownCap,ho,hn]
 . simp[Builtin.append_,dr hu,dr hx,sizeOf,typeInfo,zeroValue,hi,hz,iS,tV,Xm,Hl,Question.forced,newRow,grownCap,ho,hn]
theorem run_append_room(hu:P.underlying st=some (.slice el))(hx:P.underlying xt=some xd)(Nw:(∃y,xd= .slice y)\/xd= .string)
  (hi:P.info? el=some i) {base:Option Addr} {sLen sCap k:Nat} {x':Value} {new:Array Value}
  (iS:∀w1:World,(Builtin.lenOf x').run P w1= .ok k w1) (sV:(Builtin.firstCells i.size k x').run P w= .ok new w) (nF:sLen+k<=sCap):
  (Builtin.append_ #[st,xt] ty #[.slice base sLen sCap,x']).run P w=
   ((match base with|some a=>storeCells (a.add (sLen*i.size)) new.toList|none=>pure ()).run P w).andThen fun _ w'=>.ok (.slice base (sLen+k) sCap) w':=by
 rcases Nw with⟨y,rfl⟩|rfl
 . cases base<;>simp[Builtin.append_,dr hu,dr hx,sizeOf,typeInfo,hi,iS,nF,sV]
 . cases base<;>simp[Builtin.append_,dr hu,dr hx,sizeOf,typeInfo,hi,iS,nF,sV]
end
theorem Ny{eE:Array TypeId}{ty:TypeId}{args:ag}{c9:List Value}{r:R}(g:Good E h w)(hn:E.ι n=none)(ra:dI E args c9)
  (e:yg P eE args h n=some r) (ha:eE.size=2):ki P E h n w (do pure (.value (<- Builtin.append_ eE ty c9.toArray))) r:=by
 unfold yg at e;split at e
 . rename_i st xt s x h1 h2;obtain⟨s',_,rs,⟨x',_,rx,qn,rfl⟩,rfl⟩:=ra;simp only[dI]at qn;subst qn;have kj:eE=#[st,xt]:=by
    apply Array.ext
    . simpa using ha
    . intro i q1 q2;have:i=0\/i=1:=by simp at q2;omega
      rcases this with rfl|rfl
      . rw[bn q1]at h1;simpa using h1
      . rw[bn q1]at h2;simpa using h2
   subst kj;split at e
   . rename_i el xd he hx;split at e
     . rename_i i z YS hi hz;have Nw:(∃y,xd= .slice y)\/xd= .string:=by
        unfold JO at YS;split at YS
        . exact .inl ⟨_,rfl⟩
        . exact .inr rfl
        . cases YS
       have hu:=HF he;split at e
       . rename_i hq;obtain⟨q1,q2,q3⟩:=hq;obtain⟨z',O9,Nu,hz3⟩:=EE (P:=P) (E:=E) (w:=w) hi hz;have Xn:z'.cells.size=i.size:=by have:=eL (ig hz3);simp at this;omega
         split at e
         . rename_i k new ht;obtain⟨t1,t2,tsc,kA,t3,t4⟩:=HK g rx ht;have JJ:kA.size=k*i.size:=by have:=eL t4;simp at this;omega
           split at e
           . rename_i ai3;have JV:=Row.Px ai3 tsc;split at e
             ·
              obtain⟨_,s7,rfl⟩:=rs;split at e
              . obtain rfl:=eo e;refine dS g (v':=.slice none 0 0) ?_ ⟨rfl,rfl,rfl⟩;rw[Sem.run_bind,run_append_room hu hx Nw hi t1 (t3 w rfl) be];rfl
              . rename_i O8;have hk:0<k:=by
                 cases k with
                 |zero=>exact absurd rfl O8
                 |succ _=>omega
                split at e
                . rename_i qV;cases ho:newObj h n (B5 el x new)with
                  |none=>simp[ho]at e
                  |some p=>
                   obtain⟨h',n'⟩:=p;simp only[ho,an]at e;subst e;obtain⟨r1,r2⟩:=Cm qV;have fK:=lO (w:=w) (ty:=ty) hu hx Nw hi O9 (base:=none) (sLen:=0) (sCap:=0) (x':=x') (old:=#[]) t1 (fun _ _=>rfl) t3 be q2 (by simpa using r1);simp only[bI]at fK;have nF:k<=grownCap w k 0 el:=by simp only[grownCap,Question.cut];omega
                   have lW:(#[]++kA++Builtin.zeroCells z'.cells (grownCap w k 0 el-k)).size=grownCap w k 0 el*i.size:=by
                    simp only[Array.size_append,nk,Xn,JJ,Array.size_empty];rw[bI,<- cN];congr 1;omega
                   have EC:l7 E 0 new.iJ (#[]++kA++Builtin.zeroCells z'.cells (grownCap w k 0 el-k)):=by
                    intro j v q;obtain⟨v',p1,p2⟩:=gD t4 j v q;refine⟨v',?_,p2⟩;have hj:j<kA.size:=by have:=(aF.1 p1).1;simpa using this
                    rw[bS (by simp;omega)];simpa using p1
                   have hvs:dD (E.put n w.heap.size 0 (#[]++kA++Builtin.zeroCells z'.cells (grownCap w k 0 el-k)).size) (.dj (some (n,0)) k k i.size) (.slice (some ⟨w.heap.size,0,none⟩) k (grownCap w k 0 el)):=by
                    refine⟨w.heap.size,0,0,grownCap w k 0 el,Env.fa,fun _=>rfl,aA _,nF,?_,rfl⟩;rw[lW];simp[Env.put]
                   have BA:(do pure (.value (<- Builtin.append_ #[st,xt] ty #[.slice none 0 0,x'])):Sem Next).run P w= .ok (.value (.slice (some ⟨w.heap.size,0,none⟩) k (grownCap w k 0 el))) (w.drew.alloc (.cells (#[]++kA++Builtin.zeroCells z'.cells (grownCap w k 0 el-k)) el)):=by
                    simp only[Sem.run_bind,fK,Result.andThen_ok,Sem.run_pure]
                   unfold B5 at ho;split at ho
                   . rename_i t;obtain⟨gJ,rfl,rfl⟩:=kN ho;simp only[jz]at ht;split at ht
                     case isFalse=>cases ht
                     rename_i fS;obtain⟨rfl,rfl⟩:=fc ht;have oa:=mM.1 EC;have ua:=ir.alloc (n:=n) (ob:=.cells (#[]++kA++Builtin.zeroCells z'.cells (grownCap w t.length 0 el-t.length)) el) (o:=.iU el false t) (w:=w.drew) (g.same rfl) hn gJ (by
                      refine⟨_,_,dV t,heap_alloc_new,rfl,by simp[Env.put,jV],⟨.inl rfl,fun _=>rfl⟩,gk t,fun j x hx=>?_⟩;have:=oa j x hx;simpa using this)
                     exact⟨_,_,_,.inl BA,hvs,(ir.drew g).trans ua,fun m' sU=>Env.fA sU,.inr rfl⟩
                   . exact sX (r:=new) (w1:=w.drew) (c:=#[]++kA++Builtin.zeroCells z'.cells (grownCap w k 0 el-k)) (el:=el) g hn tsc ho rfl rfl rfl rfl BA EC hvs
                . cases e
             ·
              rename_i cO cs _;obtain⟨⟨a,cP,vs,rfl,nF,hd,T4,mF⟩,yz⟩:=rs;obtain⟨_,yz⟩:=yz rfl;simp only[Value.slice.injEq]at yz;obtain⟨_,_,hq⟩:=yz;have hq:=hq.symm;subst hq;split at e
              . obtain rfl:=eo e;refine dS g (v':=.slice a cO cO) ?_ ⟨⟨a,cO,vs,rfl,nF,hd,T4,mF⟩,fun _=>⟨a,rfl⟩⟩;rw[Sem.run_bind,run_append_room hu hx Nw hi t1 (t3 w rfl) be];have T4:kA.toList=[]:=by simp at t2;simpa[t2]using eL t4
                rw[T4];cases a<;>rfl
              . rename_i O8;have hk:0<k:=by
                 cases k with
                 |zero=>exact absurd rfl O8
                 |succ _=>omega
                split at e
                . rename_i qV;obtain⟨qV,hl⟩:=qV;cases ho:newObj h n ((Row.ds cs).app new).EA with
                  |none=>simp[ho]at e
                  |some p=>
                   obtain⟨h',n'⟩:=p;simp only[ho,an]at e;subst e;obtain⟨r1,r2⟩:=Cm qV;obtain⟨t1',_,_,Bn,t3',t4'⟩:=HK (P:=P) (size:=i.size) (x:=.dO true cO cs) (x':=.slice a cO cO) g ⟨⟨a,cO,vs,rfl,nF,hd,T4,mF⟩,fun _=>⟨a,rfl⟩⟩ (k:=cO) (new:=.ds cs) (by simp only[jz,aG hl]);have fK:=lO (w:=w) (ty:=ty) hu hx Nw hi O9 (base:=a) (sLen:=cO) (sCap:=cO) (x':=x') (old:=Bn) t1 t3' t3 be q2 r1;have nF:cO+k<=grownCap w (cO+k) cO el:=by simp only[grownCap,Question.cut];omega
                   have hol:Bn.size=cO*i.size:=by have:=eL t4';simp[Row.iJ,D.gx,hl]at this;omega
                   have lW:(Bn++kA++Builtin.zeroCells z'.cells (grownCap w (cO+k) cO el-(cO+k))).size=grownCap w (cO+k) cO el*i.size:=by
                    simp only[Array.size_append,nk,Xn,JJ,hol];rw[<- cN,<- cN];congr 1;omega
                   refine sX (r:=(Row.ds cs).app new) (w1:=w.drew) (c:=Bn++kA++Builtin.zeroCells z'.cells (grownCap w (cO+k) cO el-(cO+k))) (el:=el) (v':=.slice (some ⟨w.heap.size,0,none⟩) (cO+k) (grownCap w (cO+k) cO el)) g hn (Row.JX (jc hd) tsc) ho rfl rfl rfl rfl ?_ ?_ ?_
                   . simp only[Sem.run_bind,fK,Result.andThen_ok,Sem.run_pure]
                   . refine yn (Row.JW _ _) ?_;intro j v q;have q':=iz t4' t4;obtain⟨v',p1,p2⟩:=gD q' j v q;refine⟨v',?_,p2⟩;have hj:=(aF.1 p1).1;rw[bS (by simp at hj ⊢;omega)];rw[<- bL];simpa using p1
                   . refine⟨w.heap.size,0,0,grownCap w (cO+k) cO el,Env.fa,fun _=>rfl,aA _,nF,?_,rfl⟩;rw[lW];simp[Env.put]
                . cases e
             ·
              rename_i m o cO cP jx _;split at e
              . rename_i hq2;obtain⟨u1,u2,u3⟩:=hq2;subst u1;obtain⟨b,sh,o',gj,kF,c1,c2,c3,c4,rfl⟩:=rs;obtain⟨r1,r2⟩:=Cm u2;split at e
                ·
                 rename_i T5 AH s0 hm;split at e
                 case h_2=>cases e
                 rename_i t ht;split at e
                 case isFalse=>cases e
                 rename_i ade;obtain⟨⟨ho0,adf⟩,⟨iS,yz⟩,Ea,ai5⟩:=ade;obtain⟨b',sh',zI,c,fz,xs,wF,YP,lW,⟨Bz,J4⟩,Ck,l9⟩:=g.rel m _ hm;rw[kF]at zI;cases zI;subst YP;have D9:o'=0:=by have:=c1 adf;omega
                 subst D9;obtain⟨ys,hy1,hy2⟩:=F5 ht;rw[hy1]at t4;have hnv:=Nv t4;have arV:xs.length=s0.length:=by rw[<- Ck,uN]
                 generalize hX:xs.take cO=TD;have TC:TD.length=cO:=by rw[<- hX,bg];omega
                 have T6:∀(j:Nat) (x:Int),TD[j]? =some x->c[j]? =some (.int .u8 x):=fun j x hx=>by
                  rw[<- hX,bO]at hx;split at hx
                  . exact l9 j x hx
                  . cases hx
                 have hyl:ys.length=k:=by have:=aM List.length hy1;simp at this;rw[<- this,t2,Ea];omega
                 cases ho:newObj (h.set m none) n (.iU T5 AH (s0.take cO++t))with
                 |none=>simp[ho]at e
                 |some p=>
                  obtain⟨h',n'⟩:=p;simp only[ho,an]at e;subst e;subst ai5;obtain⟨gJ,rfl,rfl⟩:=kN ho;have YT:eN (TD++ys)=s0.take cO++t:=by rw[<- hX,<- Ck,<- hy2];simp[eN,cL]
                  have htl:(s0.take cO++t).length=cO+k:=by rw[<- YT,uN,ax,TC,hyl]
                  by_cases qV:cO+k<=gj
                  ·
                   have Xo:0+(cO+k)*i.size<=c.size:=by
                    have:(cO+k)*i.size<=gj*i.size:=cq _ qV;omega
                   rw[Ea]at Xo c4;have J0:∀v∈kA.toList,v.oneCell'=true:=by
                    intro v hv;rw[hnv]at hv;obtain⟨x,_,rfl⟩:=bj.1 hv;rfl
                   have TY:kA.toList.length=k:=by rw[hnv,aY,hyl]
                   obtain⟨w',e1,e2,e3,e4,e5,e6,e7⟩:=tU (P:=P) (o:=cO) kA.toList 0 w c wF (fun j h1 h2 h3=>by
                    have hj:j<c.size:=by omega
                    cases AH with
                    |true=>
                     have:=yz rfl;omega
                    |false=>have:=J4 rfl;omega) J0 be
                   have oz:cO+kA.toList.length<=c.size:=by omega
                   have J5:=ir.move (n:=n) (s':=0) (o:=.iU T5 AH (s0.take cO++t)) g u3 gJ hn ⟨_,hm,rfl⟩ kF e3 e4 e5 e6 e7 (by
                    refine⟨_,fz,TD++ys,e2,rfl,by rw[Nat.add_zero,jJ oz];simp[Env.put,lW],⟨?_,J4⟩,YT,fun j x hx=>?_⟩
                    . rw[htl];cases AH with
                      |true=>have:=yz rfl;omega
                      |false=>exact .inl (J4 rfl)
                    . rw[Nat.add_zero,ni oz];by_cases hj:j<cO
                      . rw[bA be]at hx;rw[aI be];exact T6 j x hx
                      . rw[cj be,TC]at hx;have YR:j-cO<ys.length:=(aF.1 hx).1;rw[aG be,hnv,bt,hx];rfl)
                   refine⟨_,w',.slice (some ⟨b,0,none⟩) (cO+k) gj,.inl ?_,?_,J5,fun m' sU=>Env.fA sU,.inr rfl⟩
                   . rw[Sem.run_bind,run_append_room hu hx Nw hi t1 (t3 w rfl) qV];simp only[Addr.iX,Ea,bk,bI,e1,Result.andThen_ok,Sem.run_pure]
                   . refine⟨b,0,0,gj,Env.fa,fun _=>rfl,aA _,qV,?_,rfl⟩;simpa[Env.put,Ea]using c4
                  ·
                   have v1:0+cO*i.size<=c.size:=by
                    have:cO*i.size<=gj*i.size:=cq _ be;omega
                   have oD:(c.toList.drop 0).take (cO*i.size)=TD.map (Value.int .u8):=by
                    rw[Ea,bk]at *;apply List.ext_getElem?;intro j;rw[bO,bt];by_cases hj:j<cO
                    . rw[aG hj,bw];have YR:j<TD.length:=by omega
                      rw[ay YR];have:=T6 j _ (ay YR);simpa using this
                    . rw[aI hj,bR be];rfl
                   have hf:∀w1:World,w1.heap=w.heap->(Builtin.firstCells i.size cO (.slice (some ⟨b,0,none⟩) cO gj)).run P w1= .ok ((c.toList.drop 0).take (cO*i.size)).toArray w1:=fun w1 Hi=>by
                    simp only[Builtin.firstCells];exact run_loadCells (by rw[Hi];exact wF) v1
                   have fK:=lO (w:=w) (ty:=ty) hu hx Nw hi O9 t1 hf t3 be q2 r1;have nF:cO+k<=grownCap w (cO+k) gj T5:=by simp only[grownCap,Question.cut];omega
                   have uf:=ir.forget g u3;rw[oD]at fK;have yC:((TD.map (Value.int .u8)).toArray).size=cO:=by simp[TC]
                   have TY:kA.size=k:=by rw[JJ,Ea,bk]
                   generalize hC:((TD.map (Value.int .u8)).toArray++kA++Builtin.zeroCells z'.cells (grownCap w (cO+k) gj T5-(cO+k)))=C at fK;have hCs:C.size=grownCap w (cO+k) gj T5*i.size:=by
                    rw[<- hC,Array.size_append,Array.size_append,nk,Xn,TY,yC,Ea,bk,bk];omega
                   have ua:=ir.alloc (n:=n) (ob:=.cells C T5) (o:=.iU T5 AH (s0.take cO++t)) (w:=w.drew) (uf.good.same rfl) hn gJ (by
                    refine⟨C,_,TD++ys,heap_alloc_new,rfl,by simp[Env.put,jV],⟨.inl rfl,fun _=>rfl⟩,YT,fun j x hx=>?_⟩;rw[<- hC];have Pa:j<(TD++ys).length:=(aF.1 hx).1;rw[ax]at Pa;rw[bS (by rw[Array.size_append,yC,TY];omega)];by_cases hj:j<cO
                    . rw[bA be]at hx;rw[bS be];simp[hx]
                    . rw[cj be]at hx;rw[Array.getElem?_append_right be,yC,<- bL,hnv,bt,<- TC,hx];rfl)
                   refine⟨_,_,.slice (some ⟨w.heap.size,0,none⟩) (cO+k) (grownCap w (cO+k) gj T5),.inl (by simp only[Sem.run_bind,fK,Result.andThen_ok,Sem.run_pure]),?_,(uf.trans (ir.drew uf.good)).trans ua,fun m' sU=>Env.fA sU,.inr rfl⟩;refine⟨w.heap.size,0,0,grownCap w (cO+k) gj T5,Env.fa,fun _=>rfl,aA _,nF,?_,rfl⟩;simp[Env.put,jV,hCs]
                . rename_i ob _ hm;split at e
                  . rename_i rw0 xm;obtain⟨b',sh',zI,q0⟩:=g.rel m _ hm;obtain⟨⟨c,Xk,fz,wF,lW,J4,EC⟩,YL⟩:=HB xm q0;rw[kF]at zI;cases zI;split at e
                    . rename_i old oD;have adg:old.sc/\o'+cO*i.size<=c.size/\dI E old.iJ ((c.toList.drop o').take (cO*i.size)):=by
                       have Hl:cO*i.size<=gj*i.size:=cq _ be;refine⟨?_,be,?_⟩
                       . split at oD
                         . obtain rfl:=eo oD;trivial
                         . exact Row.Pw oD YL
                       split at oD
                       . rename_i vS;obtain⟨_,rfl⟩:=vS;obtain rfl:=eo oD;simp[dI,Row.iJ]
                       . rename_i vS;rcases Nat.eq_zero_or_pos cO with hlz|hl
                         . obtain⟨_,PO⟩:=zS (Row.FV oD);rw[PO,hlz];simp[dI]
                         obtain⟨kE,PO⟩:=zS (Row.FV oD);rw[PO];have D9:o'=sh+o:=c1 be;subst D9;exact nZ EC kE be
                      obtain⟨adh,v1,v2⟩:=adg;have hol:old.iJ.length=cO*i.size:=by have:=eL v2;simp at this;omega
                      split at e
                      . rename_i O8;obtain⟨_,hk1⟩:=O8;obtain rfl:=eo e;subst hk1;refine dS g (v':=.slice (some ⟨b,o',none⟩) cO gj) ?_ ⟨b,sh,o',gj,kF,c1,c2,c3,c4,rfl⟩;have T4:kA.toList=[]:=by simp at JJ;simp[JJ]
                        rw[Sem.run_bind,run_append_room hu hx Nw hi t1 (t3 w rfl) be,T4];rfl
                      . rename_i O8;cases ho:newObj (h.set m none) n (old.app new).EA with
                        |none=>simp[ho]at e
                        |some p=>
                         obtain⟨h',n'⟩:=p;simp only[ho,an]at e;subst e;obtain⟨gJ,rfl,rfl⟩:=kN ho;by_cases qV:cO+k<=gj
                         ·
                          have Xo:o'+(cO+k)*i.size<=c.size:=by
                           have:(cO+k)*i.size<=gj*i.size:=cq _ qV;omega
                          have arZ:(cO+k)*i.size=cO*i.size+k*i.size:=cN _ _ _;have J0:∀v∈kA.toList,v.oneCell'=true:=by
                           intro v hv;obtain⟨j,hj⟩:=List.getElem?_of_mem hv;have fF:j<new.iJ.length:=by rw[<- eL t4];exact(aF.1 hj).1
                           obtain⟨v',p1,p2⟩:=gD t4 j new.iJ[j] (ay fF);rw[hj]at p1;cases p1;exact uJ p2 (by rw[bq]at JV;exact JV _ (bY fF))
                          obtain⟨w',e1,e2,e3,e4,e5,e6,e7⟩:=nj (P:=P) (o:=o'+cO*i.size) kA.toList 0 w c wF J4 J0 (by simp;omega);have oz:o'+cO*i.size+kA.toList.length<=c.size:=by simp;omega
                          have J5:=ir.move (n:=n) (s':=o') (o:=(old.app new).EA) g u3 gJ hn ⟨_,hm,Py xm⟩ kF e3 e4 e5 e6 e7 (by
                           have kE:E.le (E.put n b o' (E.β b)):=Env.rz hn fun _ _ _ _ _=>rfl;refine yo ⟨_,Xk,fz,e2,by rw[jJ (by simpa using oz)];simp[Env.put,lW],by rw[jJ (by simpa using oz)];exact J4,?_⟩ (Row.JX adh tsc);refine yn (Row.JW _ _) ?_;refine pY kE ?_;intro j v q;rw[ni (by simpa using oz)];by_cases hj:j<cO*i.size
                           . rw[bA be]at q;rw[aI be];obtain⟨v',p1,p2⟩:=gD v2 j v q;refine⟨v',?_,p2⟩;rw[bO,aG hj,bH]at p1;simpa using p1
                           . rw[cj be,hol]at q;have YR:j-cO*i.size<new.iJ.length:=(aF.1 q).1;rw[aG (by simp;omega)];obtain⟨v',p1,p2⟩:=gD t4 _ v q;refine⟨v',?_,p2⟩;rw[<- p1];congr 1;omega)
                          refine⟨_,w',.slice (some ⟨b,o',none⟩) (cO+k) gj,.inl ?_,?_,J5,fun m' sU=>Env.fA sU,.inr rfl⟩
                          . rw[Sem.run_bind,run_append_room hu hx Nw hi t1 (t3 w rfl) qV];simp only[Addr.iX,e1,Result.andThen_ok,Sem.run_pure]
                          . refine⟨b,o',o',gj,Env.fa,fun _=>rfl,aA _,qV,?_,rfl⟩;simpa[Env.put]using c4
                         ·
                          have hf:∀w1:World,w1.heap=w.heap->(Builtin.firstCells i.size cO (.slice (some ⟨b,o',none⟩) cO gj)).run P w1= .ok ((c.toList.drop o').take (cO*i.size)).toArray w1:=fun w1 Hi=>by
                           simp only[Builtin.firstCells];exact run_loadCells (by rw[Hi];exact wF) v1
                          have fK:=lO (w:=w) (ty:=ty) hu hx Nw hi O9 t1 hf t3 be q2 r1;have nF:cO+k<=grownCap w (cO+k) gj el:=by simp only[grownCap,Question.cut];omega
                          have uf:=ir.forget g u3;have yC:((c.toList.drop o').take (cO*i.size)).toArray.size=cO*i.size:=by simp;omega
                          have HL:(((c.toList.drop o').take (cO*i.size)).toArray++kA++Builtin.zeroCells z'.cells (grownCap w (cO+k) gj el-(cO+k))).size=grownCap w (cO+k) gj el*i.size:=by
                           rw[Array.size_append,Array.size_append,nk,Xn,JJ,yC];rw[<- cN,<- cN];congr 1;omega
                          obtain⟨E',w',v',p1,p2,p3,p4,p5⟩:=sX (P:=P) (r:=old.app new) (s:=(do pure (.value (<- Builtin.append_ #[st,xt] ty #[.slice (some ⟨b,o',none⟩) cO gj,x'])):Sem Next))
                           (v:=.dj (some (n,0)) (cO+k) (cO+k) i.size) (w1:=w.drew) (c:=((c.toList.drop o').take (cO*i.size)).toArray++kA++Builtin.zeroCells z'.cells (grownCap w (cO+k) gj el-(cO+k))) (el:=el)
                           (v':=.slice (some ⟨w.heap.size,0,none⟩) (cO+k) (grownCap w (cO+k) gj el)) uf.good hn (Row.JX adh tsc) ho rfl rfl rfl rfl
                           (by simp only[Sem.run_bind,fK,Result.andThen_ok,Sem.run_pure])
                           (by
                            refine yn (Row.JW _ _) ?_;intro j v q;have q':=iz v2 t4;obtain⟨v',p1,p2⟩:=gD q' j v q;refine⟨v',?_,p2⟩;have hj:=(aF.1 p1).1;rw[bS (by simp at hj ⊢;omega)];rw[<- bL];simpa using p1)
                           (by
                            refine⟨w.heap.size,0,0,grownCap w (cO+k) gj el,Env.fa,fun _=>rfl,aA _,nF,?_,rfl⟩;rw[HL];simp[Env.put])
                          exact⟨E',w',v',p1,p2,uf.trans p3,p4,p5⟩
                    . cases e
                  . cases e
                . cases e
              . cases e
             . cases e
           . cases e
         . cases e
       . cases e
     . cases e
   . cases e
 . cases e
end
theorem jl{kk:Option IntKind}{a b:D}(ha:gF kk a=true)(hb:gF kk b=true):iQ a b=true↔a=b:=by
 cases kk with
 |none=>
  cases a<;>simp only[gF,aO]at ha;cases b<;>simp only[gF,aO]at hb;rename_i s t;simp only[iQ,fR,beq_iff_eq,D.str.injEq]
 |some k=>
  cases a<;>simp only[gF,aO,bC]at ha;cases b<;>simp only[gF,aO,bC]at hb;subst ha;subst hb;simp[iQ]
theorem HM{φ:Nat->Option (Array Value)}{kd:TypeDesc}{kk:Option IntKind}{a b:D}{a' b':Value}(hd:mD kd kk=true)(ha:gF kk a=true)(hb:gF kk b=true)(ra:lq φ a a')(rb:lq φ b b'):
  Instr.sameNow kd a' b'=some (iQ a b):=by
 cases kk with
 |none=>
  cases a<;>simp only[gF,aO]at ha;cases b<;>simp only[gF,aO]at hb;simp only[lq]at ra rb;subst ra;subst rb;cases kd<;>simp only[mD,aO]at hd;simp only[Instr.sameNow,iQ];rw[rQ]
 |some k=>
  cases a<;>simp only[gF,aO,bC]at ha;cases b<;>simp only[gF,aO,bC]at hb;subst ha;subst hb;simp only[lq]at ra rb;subst ra;subst rb;cases kd<;>simp only[mD,aO]at hd;simp[Instr.sameNow,iQ];rfl
theorem vT{φ:Nat->Option (Array Value)}{kd:TypeDesc}{kk:Option IntKind}{k:D}{k':Value}(hd:mD kd kk=true)(hk:gF kk k=true)(rk:lq φ k k'):
  ∀(l:ae) (fT:List MapEntry) (i:Nat),jT φ l fT->(∀e∈l,gF kk e.1=true)->
  match di k l with
  |none=>Instr.findNow kd k' fT i=some none/\(∀v,ic k v l=l++[(k,v)])/\lM k l=l/\k∉l.map (·.1)
  |some d=>∃j e',i<=j/\fT[j-i]? =some e'/\lq φ d e'.val/\lq φ k e'.key/\Instr.findNow kd k' fT i=some (some (j,e'.val))/\l[j-i]? =some (k,d)/\(∀v,ic k v l=l.set (j-i) (k,v))/\lM k l=l.eraseIdx (j-i)
 | [],fT,i,r,_=>by
   simp only[jT]at r;subst r;simp only[di];exact⟨rfl,fun _=>rfl,rfl,by simp⟩
 |x::l,_,i,r,hl=>by
  obtain⟨y,ys,r1,r2,rs,rfl⟩:=r;have hx:=hl x (by simp);have hs:=HM hd hk hx rk r1;simp only[di];cases hq:iQ k x.1 with
  |true=>
   have e:=(jl hk hx).1 hq;refine⟨i,y,aA _,by simp,r2,by rw[e];exact r1,?_,?_,fun v=>?_,?_⟩
   . simp only[Instr.findNow,hs,hq]
   . simp[e]
   . simp[ic,hq]
   . simp[lM,hq]
  |false=>
   have ih:=vT hd hk rk l ys (i+1) rs fun e he=>hl e (by simp[he]);simp only;cases hL:di k l with
   |none=>
    rw[hL]at ih;obtain⟨i1,i2,i3,i4⟩:=ih;refine⟨?_,fun v=>?_,?_,?_⟩
    . simp only[Instr.findNow,hs,hq,i1]
    . simp[ic,hq,i2]
    . simp[lM,hq,i3]
    . intro h;simp only[bN,aE]at h;rcases h with q|q
      . rw[(jl hk hx).2 q]at hq;cases hq
      . exact i4 q
   |some d=>
    rw[hL]at ih;obtain⟨j,e',j1,j2,j3,j4,j5,j6,j7,j8⟩:=ih;have hj:j-i=(j-(i+1))+1:=by omega
    refine⟨j,e',be,by rw[hj];simpa using j2,j3,j4,?_,by rw[hj];simpa using j6,fun v=>?_,?_⟩
    . simp only[Instr.findNow,hs,hq,j5]
    . rw[hj];simp[ic,hq,j7]
    . rw[hj];simp[lM,hq,j8]
theorem zV{kk:Option IntKind}{k d:D}(hk:gF kk k=true):∀{l:ae},(∀e∈l,gF kk e.1=true)->(l.map (·.1)).Nodup->(di k l=some d↔(k,d)∈l)
 | [],_,_=>by simp[di]
 |x::l,hl,hn=>by
  have hx:=hl x (by simp);simp only[bN,cg]at hn;simp only[di];cases hq:iQ k x.1 with
  |true=>
   have e:=(jl hk hx).1 hq;simp only[an,aE];constructor
   . intro h;left;rw[e,<- h]
   . rintro(h|h)
     . rw[<- h]
     . exact absurd (bj.2 ⟨(k,d),h,e⟩) hn.1
  |false=>
   have e:k≠x.1:=fun h=>by rw[(jl hk hx).2 h]at hq;cases hq
   simp only[aE];rw[zV hk (fun e he=>hl e (by simp[he])) hn.2];constructor
   . exact .inr
   . rintro(h|h)
     . exact absurd (by rw[<- h]) e
     . exact h
section
variable{kk:Option IntKind}{k:D}
theorem J6(hk:gF kk k=true){l es:ae}(h:List.Perm l es)(hl:∀e∈es,gF kk e.1=true)(hn:(es.map (·.1)).Nodup):di k l=di k es:=by
 have hl':∀e∈l,gF kk e.1=true:=fun e he=>hl e (h.mem_iff.1 he);have pE:(l.map (·.1)).Nodup:=(h.map _).nodup_iff.2 hn;apply Option.ext;intro d;rw[zV hk hl' pE,zV hk hl hn,h.mem_iff]
theorem Nz{v:D}(hk:gF kk k=true){l es:ae}(h:List.Perm l es):(∀e∈es,gF kk e.1=true)->(es.map (·.1)).Nodup->List.Perm (ic k v l) (ic k v es):=by
 induction h with
 |nil=>intro _ _;exact .refl _
 |cons x p ih=>
  intro hl hn;simp only[ic];cases iQ k x.1 with
  |true=>exact .cons _ p
  |false=>exact .cons _ (ih (fun e he=>hl e (by simp[he])) (by simp at hn;exact hn.2))
 |swap x y l=>
  intro hl hn;simp only[ic];have hx:=hl x (by simp);have hy:=hl y (by simp);cases hqx:iQ k x.1 with
  |true=>
   have ex:=(jl hk hx).1 hqx;cases hqy:iQ k y.1 with
   |true=>
    have ey:=(jl hk hy).1 hqy;simp[<- ex,<- ey]at hn
   |false=>exact .swap _ _ _
  |false=>
   cases hqy:iQ k y.1 with
   |true=>exact .swap _ _ _
   |false=>exact .swap _ _ _
 |trans p q PR PS=>
  intro hl hn;exact(PR (fun e he=>hl e (q.mem_iff.1 he)) ((q.map _).nodup_iff.2 hn)).trans (PS hl hn)
theorem NA(hk:gF kk k=true){l es:ae}(h:List.Perm l es):(∀e∈es,gF kk e.1=true)->(es.map (·.1)).Nodup->List.Perm (lM k l) (lM k es):=by
 induction h with
 |nil=>intro _ _;exact .refl _
 |cons x p ih=>
  intro hl hn;simp only[lM];cases iQ k x.1 with
  |true=>exact p
  |false=>exact .cons _ (ih (fun e he=>hl e (by simp[he])) (by simp at hn;exact hn.2))
 |swap x y l=>
  intro hl hn;simp only[lM];have hx:=hl x (by simp);have hy:=hl y (by simp);cases hqx:iQ k x.1 with
  |true=>
   have ex:=(jl hk hx).1 hqx;cases hqy:iQ k y.1 with
   |true=>
    have ey:=(jl hk hy).1 hqy;simp[<- ex,<- ey]at hn
   |false=>exact .refl _
  |false=>
   cases hqy:iQ k y.1 with
   |true=>exact .refl _
   |false=>exact .swap _ _ _
 |trans p q PR PS=>
  intro hl hn;exact(PR (fun e he=>hl e (q.mem_iff.1 he)) ((q.map _).nodup_iff.2 hn)).trans (PS hl hn)
end
theorem EF{φ:Nat->Option (Array Value)}{f:MapEntry->MapEntry}{x:D×D}(hf:∀y,lq φ x.1 (f y).key/\lq φ x.2 (f y).val):∀(l:ae) (es:List MapEntry) (i:Nat),jT φ l es->jT φ (l.set i x) (es.modify i f)
 | [],_,i,r=>by simp only[jT]at r;subst r;simp[jT]
 |a::l,_,i,r=>by
  obtain⟨y,ys,r1,r2,rs,rfl⟩:=r;cases i with
  |zero=>exact⟨f y,ys,(hf y).1,(hf y).2,rs,by simp⟩
  |succ i=>exact⟨y,_,r1,r2,EF hf l ys i rs,by simp⟩
theorem Cn{φ:Nat->Option (Array Value)}:∀(l:ae) (es:List MapEntry) (x:D×D) (y:MapEntry),jT φ l es->lq φ x.1 y.key->lq φ x.2 y.val->jT φ (l++[x]) (es++[y])
 | [],_,x,y,r,a,b=>by simp only[jT]at r;subst r;exact⟨y,[],a,b,rfl,rfl⟩
 |z::l,_,x,y,r,a,b=>by
  obtain⟨y0,ys,r1,r2,rs,rfl⟩:=r;exact⟨y0,_,r1,r2,Cn l ys x y rs a b,rfl⟩
theorem AN{φ:Nat->Option (Array Value)}:∀(l:ae) (es:List MapEntry) (i:Nat),jT φ l es->jT φ (l.eraseIdx i) (es.eraseIdx i)
 | [],_,i,r=>by simp only[jT]at r;subst r;simp[jT]
 |a::l,_,i,r=>by
  obtain⟨y,ys,r1,r2,rs,rfl⟩:=r;cases i with
  |zero=>exact rs
  |succ i=>exact⟨y,_,r1,r2,AN l ys i rs,rfl⟩
theorem yD{φ:Nat->Option (Array Value)}:∀{l:ae} {es:List MapEntry},jT φ l es->es.length=l.length
 | [],_,r=>by simp only[jT]at r;subst r;rfl
 |_::_,_,r=>by obtain⟨y,ys,_,_,rs,rfl⟩:=r;simp[yD rs]
open Classical in
theorem zX{kk:Option IntKind}{k v:D}(hk:gF kk k=true):∀(l:ae),(∀e∈l,gF kk e.1=true)->(ic k v l).map (·.1)=if k∈l.map (·.1)then l.map (·.1)else l.map (·.1)++[k]
 | [],_=>by simp[ic]
 |x::l,hl=>by
  have hx:=hl x (by simp);simp only[ic];cases hq:iQ k x.1 with
  |true=>
   have e:=(jl hk hx).1 hq;simp[e]
  |false=>
   have e:k≠x.1:=fun h=>by rw[(jl hk hx).2 h]at hq;cases hq
   simp only[bN,zX hk l fun e he=>hl e (by simp[he]),aE,e,false_or];split<;>simp
theorem HN{k:D}:∀(l:ae),List.Sublist (lM k l) l
 | []=>.slnil
 |x::l=>by
  simp only[lM];cases iQ k x.1 with
  |true=>exact List.sublist_cons_self _ _
  |false=>exact .cons_cons _ (HN l)
open Classical in
section
variable{φ:Nat->Option (Array Value)}{kd:TypeDesc}{kk:Option IntKind}{es:ae}{fT:Array MapEntry}{ek:Nat}{k:D}{k':Value}
theorem jU.qp{v:D}{k' v':Value}(r:jU φ kk es fT.toList ek)(hd:mD kd kk=true)(hk:gF kk k=true)(rk:lq φ k k')(rv:lq φ v v'):
  (Instr.findNow kd k' fT.toList 0=some none/\jU φ kk (ic k v es) (fT.push { key:=k',val:=v',born:=ek }).toList (ek+1)) \/
  ∃(j:Nat) (e':MapEntry),Instr.findNow kd k' fT.toList 0=some (some (j,e'.val))/\fT[j]? =some e'/\lq φ k e'.key/\jU φ kk (ic k v es) (fT.modify j fun e=>{ e with key:=k',val:=v' }).toList ek:=by
 obtain⟨l,hp,hr⟩:=r.row;have hl:∀e∈l,gF kk e.1=true:=fun e he=>r.kind e (hp.mem_iff.1 he);have PT:=Nz (v:=v) hk hp r.kind r.keys;have HO:((ic k v es).map (·.1)).Nodup:=by
  rw[zX hk es r.kind];split
  . exact r.keys
  . rename_i h;exact List.nodup_append.2 ⟨r.keys,by simp,fun a ha b hb=>by simp at hb;subst hb;intro q;subst q;exact h ha⟩
 have HP:∀e∈ic k v es,gF kk e.1=true:=by
  intro e he;have:e.1∈(ic k v es).map (·.1):=bj.2 ⟨e,he,rfl⟩;rw[zX hk es r.kind]at this;have base:e.1∈es.map (·.1)->gF kk e.1=true:=fun h=>by obtain⟨x,hx,q⟩:=bj.1 h;rw[<- q];exact r.kind x hx
  split at this
  . exact base this
  . rcases aT.1 this with h|h
    . exact base h
    . simp at h;rw[h];exact hk
 have hf:=vT hd hk rk l fT.toList 0 hr hl;cases hL:di k l with
 |none=>
  rw[hL]at hf;obtain⟨h1,h2,_,_⟩:=hf;refine .inl ⟨h1,⟨⟨_,PT,?_⟩,HO,HP,?_,?_⟩⟩
  . rw[h2,Array.toList_push];exact Cn l fT.toList (k,v) _ hr rk rv
  . intro e he;rw[Array.toList_push]at he;rcases aT.1 he with q|q
    . have:=r.old e q;omega
    . simp at q;subst q;simp
  . rw[Array.toList_push,aX];refine List.nodup_append.2 ⟨r.born,by simp,fun a ha b hb=>?_⟩;simp at hb;subst hb;obtain⟨e,he,q⟩:=bj.1 ha;have:=r.old e he;omega
 |some d=>
  rw[hL]at hf;obtain⟨j,e',_,h2,h3,h4,h5,h6,h7,_⟩:=hf;simp only[Nat.sub_zero]at h2 h6 h7;have Ma:(fT.modify j fun e=>{ e with key:=k',val:=v' }).toList.map (·.born)=fT.toList.map (·.born):=by
   rw[Array.toList_modify];apply List.ext_getElem?;intro i;simp only[bt,List.getElem?_modify];by_cases Pb:j=i
   . simp[Pb];cases fT.toList[i]? <;>rfl
   . simp[Pb]
  refine .inr ⟨j,e',h5,by rw[<- bL];exact h2,h4,⟨⟨_,PT,?_⟩,HO,HP,?_,?_⟩⟩
  . rw[h7,Array.toList_modify];exact EF (f:=fun e=>{ e with key:=k',val:=v' }) (fun y=>⟨rk,rv⟩) l fT.toList j hr
  . intro e he;have:e.born∈(fT.modify j fun e=>{ e with key:=k',val:=v' }).toList.map (·.born):=bj.2 ⟨e,he,rfl⟩;rw[Ma]at this;obtain⟨e0,he0,q⟩:=bj.1 this;rw[<- q];exact r.old e0 he0
  . rw[Ma];exact r.born
theorem jU.del(r:jU φ kk es fT.toList ek)(hd:mD kd kk=true)(hk:gF kk k=true)(rk:lq φ k k'):
  (Instr.findNow kd k' fT.toList 0=some none/\jU φ kk (lM k es) fT.toList ek) \/
  ∃(j:Nat) (e':MapEntry),Instr.findNow kd k' fT.toList 0=some (some (j,e'.val))/\jU φ kk (lM k es) (fT.eraseIdxIfInBounds j).toList ek:=by
 obtain⟨l,hp,hr⟩:=r.row;have hl:∀e∈l,gF kk e.1=true:=fun e he=>r.kind e (hp.mem_iff.1 he);have PT:=NA hk hp r.kind r.keys;have tc:List.Sublist (lM k es) es:=HN es;have HO:((lM k es).map (·.1)).Nodup:=r.keys.sublist (tc.map _);have HP:∀e∈lM k es,gF kk e.1=true:=fun e he=>r.kind e (tc.mem he);have hf:=vT hd hk rk l fT.toList 0 hr hl;cases hL:di k l with
 |none=>
  rw[hL]at hf;obtain⟨h1,_,h3,_⟩:=hf;exact .inl ⟨h1,⟨⟨l,by rw[h3]at PT;exact PT,hr⟩,HO,HP,r.old,r.born⟩⟩
 |some d=>
  rw[hL]at hf;obtain⟨j,e',_,h2,_,_,h5,_,_,h8⟩:=hf;simp only[Nat.sub_zero]at h2 h8;have ht:(fT.eraseIdxIfInBounds j).toList=fT.toList.eraseIdx j:=Array.toList_eraseIdxIfInBounds;refine .inr ⟨j,e',h5,⟨⟨_,PT,?_⟩,HO,HP,?_,?_⟩⟩
  . rw[h8,ht];exact AN l fT.toList j hr
  . intro e he;rw[ht]at he;exact r.old e ((List.eraseIdx_sublist _ _).mem he)
  . rw[ht];exact r.born.sublist ((List.eraseIdx_sublist _ _).map _)
theorem jU.look(r:jU φ kk es fT.toList ek)(hd:mD kd kk=true)(hk:gF kk k=true)(rk:lq φ k k'):
  match di k es with
  |none=>Instr.findNow kd k' fT.toList 0=some none
  |some d=>∃j v',Instr.findNow kd k' fT.toList 0=some (some (j,v'))/\lq φ d v':=by
 obtain⟨l,hp,hr⟩:=r.row;have hl:∀e∈l,gF kk e.1=true:=fun e he=>r.kind e (hp.mem_iff.1 he);have hf:=vT hd hk rk l fT.toList 0 hr hl;rw[<- J6 hk hp r.kind r.keys];cases hL:di k l with
 |none=>rw[hL]at hf;exact hf.1
 |some d=>
  rw[hL]at hf;obtain⟨j,e',_,_,h3,_,h5,_⟩:=hf;exact⟨j,e'.val,h5,h3⟩
end
theorem jU.length{φ:Nat->Option (Array Value)}{kk:Option IntKind}{es:ae}{fT:List MapEntry}{ek:Nat}(r:jU φ kk es fT ek):fT.length=es.length:=by
 obtain⟨l,hp,hr⟩:=r.row;rw[yD hr,hp.length_eq]
theorem vU{E:Env}{x:V}{d:D}{x':Value}(e:keyOf x=some d)(r:dD E x x'):lq E.φ d x':=by
 unfold keyOf at e;split at e<;>first|(cases e;exact r)|cases e
theorem Co{x:V}{d:D}{kd:TypeDesc}{kk:Option IntKind}(e:keyOf x=some d)(hd:mD kd kk=true)(hk:gF kk d=true):B4 kd x=true:=by
 unfold keyOf at e;split at e
 . cases e;cases kk<;>simp only[gF,aO]at hk;cases kd<;>simp only[mD,aO]at hd;rfl
 . cases e;cases kk<;>simp only[gF,aO]at hk;cases kd<;>simp only[mD,aO]at hd;rfl
 . cases e
section
variable{P:Program}{E:Env}{h:Tr O}{n:Nat}{w:World}
theorem fe{b:Nat}{o:Obj}(hb:w.heap[b]? =some o)(hn:∀c el fz,o≠ .cells c el fz):(getObj b).run P w= .ok o w:=by
 simp only[getObj,Sem.run,hb]
theorem mN{b:Nat}{o o':Obj}(hb:w.heap[b]? =some o)(hn:∀c el fz,o≠ .cells c el fz):(setObj b o').run P w= .ok () { w with heap:=w.heap.setIfInBounds b o' }:=by
 simp only[setObj,Sem.run,hb]
theorem yE:∀{xs:List (V×V×Nat)} {ys:List MapEntry},kI E xs ys->ys.length=xs.length
 | [],_,r=>by simp only[kI]at r;subst r;rfl
 |_::_,_,r=>by obtain⟨y,ys,_,_,_,rs,rfl⟩:=r;simp[yE rs]
theorem yF{m:Nat}{es:List (V×V×Nat)}{ek:Nat}(g:Good E h w)(hm:h.get m=some (.map es ek)):
  ∃b fT,E.ι m=some (b,0)/\w.heap[b]? =some (.map fT ek)/\kI E es fT.toList:=by
 obtain⟨b,s,hi,hs,fT,h1,h2⟩:=g.rel m _ hm;subst hs;exact⟨b,fT,hi,h1,h2⟩
theorem uO{m:Nat}{kk:Option IntKind}{es:ae}(g:Good E h w)(hm:h.get m=some (.dF kk es)):
  ∃b fT ek,E.ι m=some (b,0)/\w.heap[b]? =some (.map fT ek)/\jU E.φ kk es fT.toList ek:=by
 obtain⟨b,s,hi,hs,fT,ek,h1,h2⟩:=g.rel m _ hm;subst hs;exact⟨b,fT,ek,hi,h1,h2⟩
theorem YU{eE:Array TypeId}{ty:TypeId}{args:ag}{c9:List Value}{v:V}(g:Good E h w)(ra:dI E args c9)(e:No P eE args h=some v):
  ki P E h n w (do pure (.value (<- Builtin.len_ eE ty c9.toArray))) (.val v h n):=by
 unfold No at e;split at e
 . rename_i t x h1;obtain⟨x',_,rx,qn,rfl⟩:=ra;simp only[dI]at qn;subst qn;split at e
   . rename_i s hu;obtain rfl:=eo e;simp only[dD]at rx;subst rx;refine dS g (v':=.int .i64 s.length) ?_ rfl;have lW:(⟨s.toArray⟩:ByteArray).size=s.length:=by show s.toArray.size=_;simp
     simp[Builtin.len_,h1,dr hu,goInt,lW]
   . rename_i _ k _ hu;obtain rfl:=eo e;refine dS g (v':=.int .i64 k) ?_ rfl;simp[Builtin.len_,h1,dr hu,goInt]
   . rename_i a cO cP jx hu;obtain rfl:=eo e;refine dS g (v':=.int .i64 cO) ?_ rfl;cases a with
     |none=>obtain⟨rfl,rfl,rfl⟩:=rx;simp[Builtin.len_,h1,dr hu,goInt]
     |some a=>obtain⟨_,_,_,_,_,_,_,_,_,rfl⟩:=rx;simp[Builtin.len_,h1,dr hu,goInt]
   . rename_i f cO cs hu;obtain rfl:=eo e;refine dS g (v':=.int .i64 cO) ?_ rfl;obtain⟨⟨_,_,_,rfl,_⟩,_⟩:=rx;simp[Builtin.len_,h1,dr hu,goInt]
   . rename_i hu;obtain rfl:=eo e;simp only[dD]at rx;subst rx;refine dS g (v':=.int .i64 0) ?_ rfl;simp[Builtin.len_,h1,dr hu,goInt]
   . rename_i m hu;split at e
     . rename_i es ek hm;obtain rfl:=eo e;obtain⟨b,fT,hi,hb,DX⟩:=yF g hm;obtain⟨b',kF,rfl⟩:=rx;rw[hi]at kF;cases kF;refine dS g (v':=.int .i64 es.length) ?_ rfl;have hl:=yE DX;simp only[Array.length_toList]at hl;simp[Builtin.len_,h1,dr hu,goInt,fe (P:=P) hb (by intro _ _ _ q;cases q),hl]
     . rename_i kk es hm;obtain rfl:=eo e;obtain⟨b,fT,ek,hi,hb,DX⟩:=uO g hm;obtain⟨b',kF,rfl⟩:=rx;rw[hi]at kF;cases kF;refine dS g (v':=.int .i64 es.length) ?_ rfl;have hl:=DX.length;simp only[Array.length_toList]at hl;simp[Builtin.len_,h1,dr hu,goInt,fe (P:=P) hb (by intro _ _ _ q;cases q),hl]
     . cases e
   . cases e
 . cases e
theorem HQ:∀(xs:ag) (x v:V) (x':Value) (B9:List Value),dD E x x'->dI E xs B9->Hv x xs=some v->
  ∃v',(B9.foldlM Builtin.max2 x').run P w= .ok v' w/\dD E v v'
 | [],x,v,x',B9,rx,rs,e=>by
   simp only[dI]at rs;subst rs;have:v=x:=by cases x<;>simp[Hv]at e<;>exact e.symm
   subst this;exact⟨x',rfl,rx⟩
 |y::ys,x,v,x',_,rx,rs,e=>by
  obtain⟨y',JS,ry,rys,rfl⟩:=rs;cases x with
  |int k a=>cases y with
   |int j b=>
    simp only[Hv]at e;simp only[dD]at rx ry;subst rx;subst ry;obtain⟨v',h1,h2⟩:=HQ ys (.int k (if b>a then b else a)) v (.int k (if b>a then b else a)) JS rfl rys e;refine⟨v',?_,h2⟩;simp only[List.foldlM_cons,Sem.run_bind,Builtin.max2,Sem.run_pure,Result.andThen_ok];exact h1
   |_=>simp[Hv]at e
  |_=>simp[Hv]at e
theorem HR:∀(xs:ag) (x v:V) (x':Value) (B9:List Value),dD E x x'->dI E xs B9->Hw x xs=some v->
  ∃v',(B9.foldlM Builtin.min2 x').run P w= .ok v' w/\dD E v v'
 | [],x,v,x',B9,rx,rs,e=>by
   simp only[dI]at rs;subst rs;have:v=x:=by cases x<;>simp[Hw]at e<;>exact e.symm
   subst this;exact⟨x',rfl,rx⟩
 |y::ys,x,v,x',_,rx,rs,e=>by
  obtain⟨y',JS,ry,rys,rfl⟩:=rs;cases x with
  |int k a=>cases y with
   |int j b=>
    simp only[Hw]at e;simp only[dD]at rx ry;subst rx;subst ry;obtain⟨v',h1,h2⟩:=HR ys (.int k (if b<a then b else a)) v (.int k (if b<a then b else a)) JS rfl rys e;refine⟨v',?_,h2⟩;simp only[List.foldlM_cons,Sem.run_bind,Builtin.min2,Sem.run_pure,Result.andThen_ok];exact h1
   |_=>simp[Hw]at e
  |_=>simp[Hw]at e
section
variable{eE:Array TypeId}{ty:TypeId}
theorem YV{x v:V}{xs:ag}{c9:List Value}(g:Good E h w)(ra:dI E (x::xs) c9)(e:Hv x xs=some v):
  ki P E h n w (do pure (.value (<- Builtin.max_ eE ty c9.toArray))) (.val v h n):=by
 obtain⟨x',B9,rx,rxs,rfl⟩:=ra;obtain⟨v',h1,h2⟩:=HQ (P:=P) (w:=w) xs x v x' B9 rx rxs e;refine dS g (v':=v') ?_ h2;simp only[Builtin.max_,Sem.run_bind,h1,Result.andThen_ok,Sem.run_pure]
theorem YW{x v:V}{xs:ag}{c9:List Value}(g:Good E h w)(ra:dI E (x::xs) c9)(e:Hw x xs=some v):
  ki P E h n w (do pure (.value (<- Builtin.min_ eE ty c9.toArray))) (.val v h n):=by
 obtain⟨x',B9,rx,rxs,rfl⟩:=ra;obtain⟨v',h1,h2⟩:=HR (P:=P) (w:=w) xs x v x' B9 rx rxs e;refine dS g (v':=v') ?_ h2;simp only[Builtin.min_,Sem.run_bind,h1,Result.andThen_ok,Sem.run_pure]
end
theorem NB{kd:TypeDesc}{a b:V}{a' b':Value}{r:Bool}(ra:dD E a a')(rb:dD E b b')(e:ye kd a b=some r):Instr.sameNow kd a' b'=some r:=by
 unfold ye at e;split at e
 . simp only[dD]at ra rb;subst ra;subst rb;split at e
   . rename_i hk;obtain rfl:=eo e;simp[Instr.sameNow,hk]
   . cases e
 . simp only[dD]at ra rb;subst ra;subst rb;obtain rfl:=eo e;simp only[Instr.sameNow];rw[rQ]
 . cases e
theorem vV{kd:TypeDesc}{k:V}{k':Value}(rk:dD E k k'):∀(es:List (V×V×Nat)) (fT:List MapEntry) (i:Nat) (r:Option (Nat×V×V×Nat)),kI E es fT->uA kd k es i=some r->
  match r with
  |none=>Instr.findNow kd k' fT i=some none
  |some (j,e)=>∃e',i<=j/\es[j-i]? =some e/\fT[j-i]? =some e'/\ye kd k e.1=some true/\dD E e.1 e'.key/\dD E e.2.1 e'.val/\e'.born=e.2.2/\Instr.findNow kd k' fT i=some (some (j,e'.val))
 | [],fT,i,r,rs,e=>by
   simp only[kI]at rs;subst rs;simp only[uA,an]at e;subst e;simp[Instr.findNow]
 |x::xs,_,i,r,rs,e=>by
  obtain⟨y,ys,r1,r2,r3,rs,rfl⟩:=rs;simp only[uA]at e;cases hk:ye kd k x.1 with
  |none=>simp[hk]at e
  |some b=>
   have hs:=NB rk r1 hk;cases b with
   |true=>
    simp only[hk,an]at e;subst e;exact⟨y,aA _,by simp,by simp,hk,r1,r2,r3,by simp[Instr.findNow,hs]⟩
   |false=>
    simp only[hk]at e;have ih:=vV rk xs ys (i+1) r rs e;cases r with
    |none=>simp only at ih ⊢;simp[Instr.findNow,hs,ih]
    |some q=>
     obtain⟨j,e0⟩:=q;obtain⟨e',a1,a2,a3,a4,a5,a6,a7,a8⟩:=ih;have hj:j-i=(j-(i+1))+1:=by omega
     exact⟨e',be,by rw[hj];simpa using a2,by rw[hj];simpa using a3,a4,a5,a6,a7,by simp[Instr.findNow,hs,a8]⟩
section
variable{kt:TypeId}{kd:TypeDesc}{k:V}{k':Value}{b:Bool}
theorem gB{fT:List MapEntry}{r:Option (Nat×Value)}(hu:P.underlying kt=some kd)(e:Instr.findNow kd k' fT 0=some r):
  (Instr.findKey kt k' fT).run P w= .ok r w:=by
 simp[Instr.findKey,dr hu,e]
theorem wO(d:Nat)(hu:P.underlying kt=some kd)(rk:dD E k k')(e:B4 kd k=true):(Instr.checkKey b (d+1) kt k').run P w= .ok () w:=by
 unfold B4 at e;split at e
 . simp only[dD]at rk;subst rk;simp only[Instr.checkKey,Sem.run_bind,dr hu,Result.andThen_ok];rfl
 . simp only[dD]at rk;subst rk;simp only[Instr.checkKey,Sem.run_bind,dr hu,Result.andThen_ok];rfl
 . cases e
theorem jd(hu:P.underlying kt=some kd)(rk:dD E k k')(e:B4 kd k=true):(Instr.checkKey b 10000 kt k').run P w= .ok () w:=
 wO 9999 hu rk e
end
theorem NC{t:TypeId}{x k v:V}{ok:Bool}{x' k':Value}(g:Good E h w)(rx:dD E x x')(rk:dD E k k')(e:vL P t h x k ok=some v):
  ki P E h n w (do pure (.value (<- Instr.lookup t x' k' ok))) (.val v h n):=by
 unfold vL at e;split at e
 . rename_i kt et hu;split at e
   . rename_i kd z hk hz;split at e
     . rename_i r kk es hm;split at e
       . rename_i kq J7;split at e
         . rename_i hb;simp only[aC]at hb;simp only[an]at e;obtain⟨z',O9,Nu,_⟩:=l8 (w:=w) E hz;obtain⟨b,fT,ek,hi,wF,hr⟩:=uO g hm;obtain⟨b',kF,rfl⟩:=rx;rw[hi]at kF;cases kF;have ug:=fe (P:=P) wF (by intro _ _ _ q;cases q);have Mb:=Co J7 hb.1 hb.2;have HS:=jd (P:=P) (w:=w) (b:=fT.isEmpty) hk rk Mb;have T7:=hr.look hb.1 hb.2 (vU J7 rk);cases hL:di kq es with
           |none=>
            rw[hL]at T7 e;have fK:(Instr.lookup t (.map (some b)) k' ok).run P w= .ok (if ok then .tuple #[z',.bool false]else z') w:=by
             simp only[Instr.lookup,Sem.run_bind,dr hu,Result.andThen_ok,Sem.run_pure,ug,HS,gB hk T7,O9]
            subst e;refine dS g (v':=if ok then .tuple #[z',.bool false]else z') (by rw[Sem.run_bind,fK];rfl) ?_;cases ok with
            |true=>exact⟨[z',.bool false],⟨z',_,Nu,⟨.bool false,[],rfl,rfl,rfl⟩,rfl⟩,rfl⟩
            |false=>exact Nu
           |some d=>
            rw[hL]at T7 e;obtain⟨j,v',q1,q2⟩:=T7;have fK:(Instr.lookup t (.map (some b)) k' ok).run P w= .ok (if ok then .tuple #[v',.bool true]else v') w:=by
             simp only[Instr.lookup,Sem.run_bind,dr hu,Result.andThen_ok,Sem.run_pure,ug,HS,gB hk q1]
            subst e;refine dS g (v':=if ok then .tuple #[v',.bool true]else v') (by rw[Sem.run_bind,fK];rfl) ?_;cases ok with
            |true=>exact⟨[v',.bool true],⟨v',_,l6 d v' q2,⟨.bool true,[],rfl,rfl,rfl⟩,rfl⟩,rfl⟩
            |false=>exact l6 d v' q2
         . cases e
       . cases e
     rename_i x _ _ J8;split at e
     . rename_i Mb;obtain⟨z',O9,Nu,_⟩:=l8 (w:=w) E hz;have PI:∀(es:List (V×V×Nat)) (fT:Array MapEntry),kI E es fT.toList->(match uA kd k es 0 with
         |some (some (_,_,v,_))=>some (if ok then V.ew [v,.bool true]else v)
         |some none=>some (if ok then V.ew [z,.bool false]else z)
         |none=>none)=some v->
         ((Instr.findKey kt k' fT.toList).run P w= .ok none w/\dD E v (if ok then .tuple #[z',.bool false]else z')) \/
         ∃j v',(Instr.findKey kt k' fT.toList).run P w= .ok (some (j,v')) w/\dD E v (if ok then .tuple #[v',.bool true]else v'):=by
        intro es fT DX e;cases hf:uA kd k es 0 with
        |none=>simp[hf]at e
        |some r=>
         have hr:=vV rk es fT.toList 0 r DX hf;cases r with
         |none=>
          simp only[hf,an]at e;subst e;refine .inl ⟨gB hk hr,?_⟩;cases ok with
          |true=>exact⟨[z',.bool false],⟨z',_,Nu,⟨.bool false,[],rfl,rfl,rfl⟩,rfl⟩,rfl⟩
          |false=>exact Nu
         |some q=>
          obtain⟨j,k0,v0,n0⟩:=q;simp only[hf,an]at e;subst e;obtain⟨e',_,_,_,_,_,a6,_,a8⟩:=hr;refine .inr ⟨j,e'.val,gB hk a8,?_⟩;cases ok with
          |true=>exact⟨[e'.val,.bool true],⟨e'.val,_,a6,⟨.bool true,[],rfl,rfl,rfl⟩,rfl⟩,rfl⟩
          |false=>exact a6
       cases x with
       |map m=>
        cases m with
        |none=>
         simp only at e;simp only[dD]at rx;subst rx;rcases PI [] #[] (by simp[kI]) e with⟨m1,m3⟩|⟨j,v',m1,m3⟩
         . refine dS g ?_ m3;simp only[Instr.lookup,Sem.run_bind,dr hu,Result.andThen_ok,Sem.run_pure,jd (b:=(#[]:Array MapEntry).isEmpty) hk rk Mb,m1,O9]
         . refine dS g ?_ m3;simp only[Instr.lookup,Sem.run_bind,dr hu,Result.andThen_ok,Sem.run_pure,jd (b:=(#[]:Array MapEntry).isEmpty) hk rk Mb,m1]
        |some m=>
         simp only at e;cases hm:h.get m with
         |none=>simp[hm]at e
         |some o=>
          cases o with
          |map es ek=>
           simp only[hm]at e;obtain⟨b,fT,hi,hb,DX⟩:=yF g hm;obtain⟨b',kF,rfl⟩:=rx;rw[hi]at kF;cases kF;have ug:=fe (P:=P) hb (by intro _ _ _ q;cases q);rcases PI es fT DX e with⟨m1,m3⟩|⟨j,v',m1,m3⟩
           . refine dS g ?_ m3;simp only[Instr.lookup,Sem.run_bind,dr hu,Result.andThen_ok,Sem.run_pure,ug,jd (b:=fT.isEmpty) hk rk Mb,m1,O9]
           . refine dS g ?_ m3;simp only[Instr.lookup,Sem.run_bind,dr hu,Result.andThen_ok,Sem.run_pure,ug,jd (b:=fT.isEmpty) hk rk Mb,m1]
          |_=>simp[hm]at e
       |_=>simp at e
     . cases e
   . cases e
 . cases e
theorem pQ{f:V×V×Nat->V×V×Nat}{f':MapEntry->MapEntry}(hf:∀x y,dD E x.1 y.key->dD E x.2.1 y.val->y.born=x.2.2->dD E (f x).1 (f' y).key/\dD E (f x).2.1 (f' y).val/\(f' y).born=(f x).2.2):
  ∀(xs:List (V×V×Nat)) (ys:List MapEntry) (i:Nat),kI E xs ys->kI E (sN xs i f) (ys.modify i f')
 | [],_,i,r=>by simp only[kI]at r;subst r;simp[sN,kI]
 |x::xs,_,i,r=>by
  obtain⟨y,ys,a,b,c,rs,rfl⟩:=r;cases i with
  |zero=>obtain⟨p,q,s⟩:=hf x y a b c;exact⟨f' y,ys,p,q,s,rs,by simp⟩
  |succ i=>exact⟨y,_,a,b,c,pQ hf xs ys i rs,by simp⟩
theorem xn:∀(xs:List (V×V×Nat)) (ys:List MapEntry) (x:V×V×Nat) (y:MapEntry),kI E xs ys->dD E x.1 y.key->dD E x.2.1 y.val->y.born=x.2.2->kI E (xs++[x]) (ys++[y])
 | [],_,x,y,r,a,b,c=>by simp only[kI]at r;subst r;exact⟨y,[],a,b,c,rfl,rfl⟩
 |z::zs,_,x,y,r,a,b,c=>by
  obtain⟨y0,ys,a0,b0,c0,rs,rfl⟩:=r;exact⟨y0,_,a0,b0,c0,xn zs ys x y rs a b c,rfl⟩
section
variable{m b ek clock':Nat}
theorem yG{es tX:List (V×V×Nat)}{fT Bo:Array MapEntry}(g:Good E h w)(gJ:m<fL)(hm:h.get m=some (.map es ek))(hi:E.ι m=some (b,0))(hb:w.heap[b]? =some (.map fT ek))
  (DX:kI E tX Bo.toList):ir E h w E (h.set m (some (.map tX clock'))) { w with heap:=w.heap.setIfInBounds b (.map Bo clock') }:=by
 have fF:b<w.heap.size:=(aQ.1 hb).1;refine ir.write g gJ ⟨_,hm,rfl⟩ hi (by simp) rfl rfl rfl (fun x hx=>?_) ⟨rfl,Bo,?_,DX⟩
 . simp[Ne.symm hx]
 . simp[fF]
theorem yH{kk:Option IntKind}{es tX:ae}{fT Bo:Array MapEntry}(g:Good E h w)(gJ:m<fL)(hm:h.get m=some (.dF kk es))(hi:E.ι m=some (b,0))(hb:w.heap[b]? =some (.map fT ek))
  (DX:jU E.φ kk tX Bo.toList clock'):ir E h w E (h.set m (some (.dF kk tX))) { w with heap:=w.heap.setIfInBounds b (.map Bo clock') }:=by
 have fF:b<w.heap.size:=(aQ.1 hb).1;refine ir.write g gJ ⟨_,hm,rfl⟩ hi (by simp) rfl rfl rfl (fun x hx=>?_) ⟨rfl,Bo,clock',?_,DX⟩
 . simp[Ne.symm hx]
 . simp[fF]
end
theorem Cp{kd:TypeDesc}{a b:V}{a' b':Value}(ra:dD E a a')(rb:dD E b b')(e:ye kd a b=some true):(Instr.keyThatStays b' a').run P w= .ok a' w:=by
 have:Instr.sameBits 10000 b' a'=true:=by
  unfold ye at e;split at e
  . simp only[dD]at ra rb;subst ra;subst rb;split at e
    . rename_i hk;simp only[an,beq_iff_eq]at e;simp[Instr.sameBits,hk,e]
    . cases e
  . simp only[dD]at ra rb;subst ra;subst rb;simp only[an]at e;simp only[Instr.sameBits];rw[fR]at e;have hab:_=_:=eq_of_beq e;subst hab;rw[rQ,fR];simp
  . cases e
 simp[Instr.keyThatStays,this]
section
variable{eE:Array TypeId}{t ty:TypeId}{m k:V}{m' k':Value}{r:R}
theorem yI{v:V}{m' k' v':Value}{r:R}(g:Good E h w)(rm:dD E m m')(rk:dD E k k')(rv:dD E v v')(e:sO P t h n m k v=some r):
  ki P E h n w (do Instr.mapUpdate t m' k' v';pure .skip) r:=by
 unfold sO at e;split at e
 . rename_i kt et m hu;split at e
   . rename_i kd es ek hk hm;obtain⟨b,fT,hi,hb,DX⟩:=yF g hm;obtain⟨b',kF,rfl⟩:=rm;rw[hi]at kF;cases kF;have ug:=fe (P:=P) hb (by intro _ _ _ q;cases q);have xo:∀o',(setObj b o').run P w= .ok () { w with heap:=w.heap.setIfInBounds b o' }:=fun o'=>mN (P:=P) hb (by intro _ _ _ q;cases q);split at e
     . rename_i hq;obtain⟨Mb,gJ⟩:=hq;have HS:=jd (P:=P) (w:=w) (b:=false) hk rk Mb;cases hf:uA kd k es 0 with
       |none=>simp[hf]at e
       |some q=>
        have hr:=vV rk es fT.toList 0 q DX hf;cases q with
        |none=>
         simp only[hf,an]at e;subst e;have J5:=yG (clock':=ek+1) (tX:=es++[(k,v,ek)]) (Bo:=fT.push { key:=k',val:=v',born:=ek }) g gJ hm hi hb (by
          rw[Array.toList_push];exact xn es fT.toList (k,v,ek) { key:=k',val:=v',born:=ek } DX rk rv rfl)
         refine⟨E,_,undef,.inr ⟨?_,rfl⟩,⟨[],rfl,rfl⟩,J5,fun _ _=>rfl,.inl ⟨rfl,rfl⟩⟩;simp only[Instr.mapUpdate,Sem.run_bind,dr hu,Result.andThen_ok,ug,HS,gB hk hr,xo,Sem.run_pure]
        |some q=>
         obtain⟨j,e0⟩:=q;simp only[hf,an]at e;subst e;obtain⟨e',a1,a2,a3,a4,a5,a6,a7,a8⟩:=hr;simp only[Nat.sub_zero]at a2 a3;have J9:((fT[j]?).map (·.key)).getD k'=e'.key:=by rw[<- bL,a3];rfl
         have Bm:=Cp (P:=P) (w:=w) rk a5 a4;have J5:=yG (clock':=ek) (tX:=sN es j fun e=>(k,v,e.2.2)) (Bo:=fT.modify j fun e=>{ e with key:=k',val:=v' }) g gJ hm hi hb (by
          rw[Array.toList_modify];exact pQ (f:=fun e=>(k,v,e.2.2)) (f':=fun e=>{ e with key:=k',val:=v' }) (fun x y p q s=>⟨rk,rv,s⟩) es fT.toList j DX)
         refine⟨E,_,undef,.inr ⟨?_,rfl⟩,⟨[],rfl,rfl⟩,J5,fun _ _=>rfl,.inl ⟨rfl,rfl⟩⟩;simp only[Instr.mapUpdate,Sem.run_bind,dr hu,Result.andThen_ok,ug,HS,gB hk a8,J9,Bm,xo,Sem.run_pure]
     . cases e
   . rename_i kd kk es hk hm;split at e
     . rename_i kq vq J7 hvq;split at e
       . rename_i hb;simp only[aC,bC]at hb;obtain⟨hd,EG,gJ⟩:=hb;obtain rfl:=eo e;obtain⟨b,fT,ek,hi,wF,hr⟩:=uO g hm;obtain⟨b',kF,rfl⟩:=rm;rw[hi]at kF;cases kF;have ug:=fe (P:=P) wF (by intro _ _ _ q;cases q);have xo:∀o',(setObj b o').run P w= .ok () { w with heap:=w.heap.setIfInBounds b o' }:=fun o'=>mN (P:=P) wF (by intro _ _ _ q;cases q);have Mb:=Co J7 hd EG;have HS:=jd (P:=P) (w:=w) (b:=false) hk rk Mb;rcases hr.qp hd EG (vU J7 rk) (FU hvq rv).1 with⟨q1,q2⟩|⟨j,e',q1,q2,q3,q4⟩
         . refine⟨E,_,undef,.inr ⟨?_,rfl⟩,⟨[],rfl,rfl⟩,yH g gJ hm hi wF q2,fun _ _=>rfl,.inl ⟨rfl,rfl⟩⟩;simp only[Instr.mapUpdate,Sem.run_bind,dr hu,Result.andThen_ok,ug,HS,gB hk q1,xo,Sem.run_pure]
         . have J9:((fT[j]?).map (·.key)).getD k'=e'.key:=by rw[q2];rfl
           have Bm:(Instr.keyThatStays e'.key k').run P w= .ok k' w:=by
            have r1:=vU J7 rk;have:e'.key=k':=by
             cases kq<;>first|(simp only[lq]at q3 r1;rw[q3,r1])|(unfold keyOf at J7;split at J7<;>cases J7)
            rw[this];refine Cp rk rk (kd:=kd) ?_;have ap7:=(jl EG EG).2 rfl;unfold keyOf at J7;split at J7<;>first|cases J7|skip
            . cases kd<;>cases kk<;>simp only[mD,gF,aO]at hd EG;simp[ye]
            . cases kd<;>cases kk<;>simp only[mD,gF,aO]at hd EG;simp only[ye,fR];simp
           refine⟨E,_,undef,.inr ⟨?_,rfl⟩,⟨[],rfl,rfl⟩,yH g gJ hm hi wF q4,fun _ _=>rfl,.inl ⟨rfl,rfl⟩⟩;simp only[Instr.mapUpdate,Sem.run_bind,dr hu,Result.andThen_ok,ug,HS,gB hk q1,J9,Bm,xo,Sem.run_pure]
       . cases e
     . cases e
   . cases e
 . cases e
theorem ND{args:ag}{c9:List Value}{r:R}(g:Good E h w)(ra:dI E args c9)(ha:eE.size=2)(e:FP P eE args h n=some r):
  ki P E h n w (do pure (.value (<- Builtin.delete_ eE ty c9.toArray))) r:=by
 unfold FP at e;split at e
 . rename_i t m k h1;obtain⟨m',_,rm,⟨k',_,rk,qn,rfl⟩,rfl⟩:=ra;simp only[dI]at qn;subst qn;split at e
   . rename_i kt et hu;split at e
     . rename_i kd kk es kq hk hm J7;split at e
       . rename_i hb;simp only[aC,bC]at hb;obtain⟨hd,EG,gJ⟩:=hb;obtain rfl:=eo e;obtain⟨b,fT,ek,hi,wF,hr⟩:=uO g hm;obtain⟨b',kF,rfl⟩:=rm;rw[hi]at kF;cases kF;have ug:=fe (P:=P) wF (by intro _ _ _ q;cases q);have xo:∀o',(setObj b o').run P w= .ok () { w with heap:=w.heap.setIfInBounds b o' }:=fun o'=>mN (P:=P) wF (by intro _ _ _ q;cases q);have Mb:=Co J7 hd EG;have HS:=jd (P:=P) (w:=w) (b:=fT.isEmpty) hk rk Mb;rcases hr.del hd EG (vU J7 rk)with⟨q1,q2⟩|⟨j,e',q1,q2⟩
         . refine⟨E,_,.tuple #[],.inl ?_,⟨[],rfl,rfl⟩,yH g gJ hm hi wF q2,fun _ _=>rfl,.inl ⟨rfl,rfl⟩⟩;simp[Builtin.delete_,h1,dr hu,ug,HS,gB hk q1,xo]
         . refine⟨E,_,.tuple #[],.inl ?_,⟨[],rfl,rfl⟩,yH g gJ hm hi wF q2,fun _ _=>rfl,.inl ⟨rfl,rfl⟩⟩;simp[Builtin.delete_,h1,dr hu,ug,HS,gB hk q1,xo]
       . cases e
     . cases e
   . cases e
 . cases e
theorem HT(g:Good E h w)(rm:dD E m m')(rk:dD E k k')(e:zK P t h n m k=some r):
  ki P E h n w (do pure (.value (<- Instr.mapEntry t m' k'))) r:=by
 unfold zK at e;split at e
 . rename_i kt et m hu;split at e
   . rename_i kd es ek z hk hm hz;obtain⟨b,fT,hi,hb,DX⟩:=yF g hm;obtain⟨b',kF,rfl⟩:=rm;rw[hi]at kF;cases kF;have ug:=fe (P:=P) hb (by intro _ _ _ q;cases q);have xo:∀o',(setObj b o').run P w= .ok () { w with heap:=w.heap.setIfInBounds b o' }:=fun o'=>mN (P:=P) hb (by intro _ _ _ q;cases q);obtain⟨z',O9,Nu,_⟩:=l8 (w:=w) E hz;split at e
     . rename_i hq;obtain⟨Mb,gJ⟩:=hq;have HS:=jd (P:=P) (w:=w) (b:=false) hk rk Mb;cases hf:uA kd k es 0 with
       |none=>simp[hf]at e
       |some q=>
        have hr:=vV rk es fT.toList 0 q DX hf;cases q with
        |none=>
         simp only[hf,an]at e;subst e;have J5:=yG (clock':=ek+1) (tX:=es++[(k,z,ek)]) (Bo:=fT.push { key:=k',val:=z',born:=ek }) g gJ hm hi hb (by
          rw[Array.toList_push];exact xn es fT.toList (k,z,ek) { key:=k',val:=z',born:=ek } DX rk Nu rfl)
         refine⟨E,_,.tuple #[z',.int .i64 ek],.inl ?_,⟨[z',.int .i64 ek],⟨z',_,Nu,⟨.int .i64 ek,[],rfl,rfl,rfl⟩,rfl⟩,rfl⟩,J5,fun _ _=>rfl,.inl ⟨rfl,rfl⟩⟩;simp only[Instr.mapEntry,Sem.run_bind,dr hu,Result.andThen_ok,ug,HS,gB hk hr,O9,xo,Sem.run_pure,goInt]
        |some q=>
         obtain⟨j,e0⟩:=q;simp only[hf,an]at e;subst e;obtain⟨e',a1,a2,a3,a4,a5,a6,a7,a8⟩:=hr;simp only[Nat.sub_zero]at a2 a3;have J9:((fT[j]?).map (·.key)).getD k'=e'.key:=by rw[<- bL,a3];rfl
         have Ma:(Option.map (fun x=>(x.born:Int)) fT[j]?).getD 0=(e0.2.2:Int):=by rw[<- bL,a3];exact aM _ a7
         have Bm:=Cp (P:=P) (w:=w) rk a5 a4;have J5:=yG (clock':=ek) (tX:=sN es j fun e=>(k,e.2.1,e.2.2)) (Bo:=fT.modify j fun e=>{ e with key:=k' }) g gJ hm hi hb (by
          rw[Array.toList_modify];exact pQ (f:=fun e=>(k,e.2.1,e.2.2)) (f':=fun e=>{ e with key:=k' }) (fun x y p q s=>⟨rk,q,s⟩) es fT.toList j DX)
         refine⟨E,_,.tuple #[e'.val,.int .i64 e0.2.2],.inl ?_,⟨[e'.val,.int .i64 e0.2.2],⟨e'.val,_,a6,⟨.int .i64 e0.2.2,[],rfl,rfl,rfl⟩,rfl⟩,rfl⟩,J5,fun _ _=>rfl,.inl ⟨rfl,rfl⟩⟩;simp only[Instr.mapEntry,Sem.run_bind,dr hu,Result.andThen_ok,ug,HS,gB hk a8,J9,Ma,Bm,xo,Sem.run_pure,goInt]
     . cases e
   . cases e
 . cases e
theorem F6{m o l cP z:Nat}{c9:List Value}(g:Good E h w)(ra:dI E [.dj (some (m,o)) l cP z] c9)(hc:0<cP):
  ki P E h n w (do pure (.value (<- Builtin.unsafeSliceData_ eE ty c9.toArray))) (.val (.ptr (some (m,o))) h n):=by
 obtain⟨x',_,⟨b,s,o',gj,h1,h2,h3,h4,h5,rfl⟩,qn,rfl⟩:=ra;simp only[dI]at qn;subst qn;have:=h2 hc;subst this;refine dS g (v':=.pointer (some ⟨b,s+o,none⟩)) ?_ ⟨b,s,h1,rfl⟩;rw[Sem.run_bind,Lib.run_unsafeSliceData_row w eE ty ⟨b,s+o,none⟩ l gj be];rfl
theorem Bp{pt e:TypeId}{m:Nat}{l:Int}{AH:Bool}{t:aa}{c9:List Value}(g:Good E h w)(ra:dI E [.ptr (some (m,0)),.int .i64 l] c9)(ha0:eE[0]? =some pt)(ha:eE.size=2)(hp:P.underlying pt=some (.pointer e))
  (hm:h.get m=some (.iU e AH t)) (hl:l=t.length) (h0:0<t.length) (hce:P.cellsOf e=1) (gJ:m<fL) (h63:t.length<=w9):
  ki P E h n w (do pure (.value (<- Builtin.unsafeString_ eE ty c9.toArray))) (.val (.str t) (h.set m (some (.iU e true t))) n):=by
 obtain⟨x',_,⟨b,s,h1,rfl⟩,⟨y',_,r2,qn,rfl⟩,rfl⟩:=ra;simp only[dI]at qn;subst qn;simp only[dD]at r2;subst r2;obtain⟨b',s',mz,c,fz,xs,wF,hs,lW,⟨Bz,J4⟩,Ck,l9⟩:=g.rel m _ hm;rw[h1]at mz;cases mz;subst hs;have TC:xs.length=t.length:=by rw[<- Ck];simp[eN]
 have o5:t.length<=c.size:=by
  have h2:=l9 (t.length-1) (xs[t.length-1]'(by omega)) (ay be);have:=(aQ.1 h2).1;omega
 have kj:eE=#[pt,eE[1]'(by omega)]:=by
  apply Array.ext
  . simpa using ha
  . intro i q1 q2;have:i=0\/i=1:=by simp at q2;omega
    rcases this with rfl|rfl
    . rw[bn q1]at ha0;simpa using ha0
    . rfl
 have hlb:∀(l:List Int) (k:Nat) (gr:ByteArray),(∀(j:Nat) (x:Int),l[j]? =some x->c[k+j]? =some (.int .u8 x))->(loadBytes ⟨b,k,none⟩ gr l.length).run P w= .ok ⟨gr.data++(eN l).toArray⟩ w:=by
  intro l
  induction l with
  |nil=>intro k gr _;simp[loadBytes,eN]
  |cons x l ih=>
   intro k gr hh;have e0:=hh 0 x rfl;simp only[aS,loadBytes,Sem.run_bind,run_load,Addr.iX];rw[show(⟨b,k,none⟩:Addr)=⟨b,k+0,none⟩from rfl,nh wF,e0];simp only[Result.andThen_ok];rw[ih (k+0+1) _ (fun j y hy=>by have:=hh (j+1) y (by simpa using hy);rw[<- this];congr 1;omega)];congr 1;simp[eN,ByteArray.push]
 have adl:=hlb xs 0 .empty (fun j x hx=>by rw[bI];exact l9 j x hx);rw[TC,Ck]at adl;have YP:w.shape? b=some (e,c.size):=by simp[World.shape?,wF]
 have adm:=Lib.liesAt_bytes (P:=P) hce (c.size/P.cellsOf e) t.length (by rw[hce];simpa using o5);have vS:t.length≠0:=by omega
 have ai9:¬(9223372036854775807:Int)<(t.length:Int):=by unfold w9 at h63;omega
 have aja:IntKind.i64.max=9223372036854775807:=rfl;have ajb:¬(t.length:Int)<0:=by omega
 have hun:=hp;have fK:(Builtin.unsafeString_ eE ty #[.pointer (some ⟨b,0,none⟩),.int .i64 t.length]).run P w= .ok (.string ⟨t.toArray⟩) (w.freeze ⟨b,0,none⟩ t.length):=by
  rw[kj];have ajc:Builtin.unsafeString_ #[pt,eE[1]'(by omega)] ty #[.pointer (some ⟨b,0,none⟩),.int .i64 t.length]=
   (do
    let n <- asInt (.int .i64 t.length)
    if n<0 then runtimePanic (.error "unsafe.String: len out of range")
    if n>IntKind.i64.max then unsupported (.unsafePointer "String: a length above the largest int")
    if n=0 then pure (.string .empty)
    else if <- variablesAt ⟨b,0,none⟩ (<- elemOf pt) n.toNat then do
     let s <- loadBytes ⟨b,0,none⟩ .empty n.toNat
     freeze ⟨b,0,none⟩ n.toNat
     pure (.string s)
    else unsupported (.unsafePointer "String: not so many bytes at ptr")):=rfl
  rw[ajc];simp[asInt,asIntOf,aja,ai9,ajb,vS,variablesAt,YP,elemOf,dr hp,adm,adl]
  done
 have h00:(0:Nat)+0=0:=rfl;refine⟨E,w.freeze ⟨b,0,none⟩ t.length,.string ⟨t.toArray⟩,.inl ?_,rfl,?_,fun _ _=>rfl,.inl ⟨rfl,rfl⟩⟩
 . rw[Sem.run_bind,h00,hl];rw[fK];rfl
 . have FX:eC h m:=⟨_,hm,rfl⟩;have hbs:b<w.heap.size:=(aQ.1 wF).1;refine ir.write g gJ FX h1 (by unfold World.freeze;rw[aI vS];simp) (by unfold World.freeze;rw[aI vS]) (by unfold World.freeze;rw[aI vS]) (by unfold World.freeze;rw[aI vS]) (fun x hx=>by unfold World.freeze;rw[aI vS];simp only[cm];rw[aI (Ne.symm hx)]) ?_;refine⟨c,(if fz.1==fz.2 then(0,0+t.length)else(min fz.1 0,max fz.2 (0+t.length))),xs,by unfold World.freeze;rw[aI vS];simp[cm,wF],rfl,lW,⟨.inr ?_,fun q=>by simp at q⟩,Ck,l9⟩;split
   . simp
   . rename_i q;have:¬fz.1=fz.2:=by simpa using q
     simp only[bI];omega
end
theorem Cq{b:Int}:∀(xs:List (V×V×Nat)) (ys:List MapEntry) (i j:Nat),kI E xs ys->zL b xs i=some j->i<=j/\ys.findIdx? (fun e=>(e.born:Int)==b)=some (j-i)
 | [],_,i,j,r,e=>by simp[zL]at e
 |x::xs,_,i,j,r,e=>by
  obtain⟨y,ys,_,_,c,rs,rfl⟩:=r;simp only[zL]at e;split at e
  . rename_i hb;obtain rfl:=eo e;refine⟨aA _,?_⟩;rw[List.findIdx?_cons,aG (by rw[c];exact hb)];simp
  . rename_i hb;obtain⟨h1,h2⟩:=Cq xs ys (i+1) j rs e;refine⟨be,?_⟩;rw[List.findIdx?_cons,aI (by rw[c];exact hb),h2];simp;omega
section
variable{t:TypeId}{h':Tr O}{x:V}{n':Nat}{x':Value}{r:R}
theorem Eb{m s v:V}{m' s' v':Value}{r:R}(g:Good E h w)(rm:dD E m m')(rs:dD E s s')(rv:dD E v v')(e:uB h n m s v=some r):
  ki P E h n w (do Instr.entryStore t m' s' v';pure .skip) r:=by
 unfold uB at e;split at e
 . rename_i m k b0;simp only[dD]at rs;subst rs;split at e
   . rename_i es ek hm;obtain⟨b,fT,hi,hb,DX⟩:=yF g hm;obtain⟨b',kF,rfl⟩:=rm;rw[hi]at kF;cases kF;have ug:=fe (P:=P) hb (by intro _ _ _ q;cases q);have xo:∀o',(setObj b o').run P w= .ok () { w with heap:=w.heap.setIfInBounds b o' }:=fun o'=>mN (P:=P) hb (by intro _ _ _ q;cases q);split at e
     . rename_i gJ;cases hf:zL b0 es 0 with
       |none=>simp[hf]at e
       |some j=>
        simp only[hf,an]at e;subst e;obtain⟨_,h2⟩:=Cq es fT.toList 0 j DX hf;have h3:fT.findIdx? (fun e=>(e.born:Int)==b0)=some j:=by
         have q:=List.findIdx?_toArray (fun(e:MapEntry)=>(e.born:Int)==b0) fT.toList;rw[Array.toArray_toList]at q;rw[q];simpa using h2
        have J5:=yG (clock':=ek) (tX:=sN es j fun e=>(e.1,v,e.2.2)) (Bo:=fT.modify j fun e=>{ e with val:=v' }) g gJ hm hi hb (by
         rw[Array.toList_modify];exact pQ (f:=fun e=>(e.1,v,e.2.2)) (f':=fun e=>{ e with val:=v' }) (fun x y p q s=>⟨p,rv,s⟩) es fT.toList j DX)
        refine⟨E,_,undef,.inr ⟨?_,rfl⟩,⟨[],rfl,rfl⟩,J5,fun _ _=>rfl,.inl ⟨rfl,rfl⟩⟩;simp only[Instr.entryStore,Sem.run_bind,ug,Result.andThen_ok,asInt,asIntOf,Sem.run_pure,h3,xo]
     . cases e
   . cases e
 . cases e
theorem AO{s:Sem Next}{o:O}{ob:Obj}{v:V}{v':Value}(g:Good E h w)(hn:E.ι n=none)(e:newObj h n o=some (h',n'))
  (ho:∀E1 w1,w1.heap[w.heap.size]? =some ob->lU E1 w1 w.heap.size 0 o) (hr:s.run P w= .ok (.value v') (w.alloc ob)) (hv:dD (E.put n w.heap.size 0 (jV ob)) v v'):ki P E h n w s (.val v h' n'):=by
 obtain⟨gJ,rfl,rfl⟩:=kN e;exact⟨_,_,v',.inl hr,hv,ir.alloc g hn gJ (ho _ _ heap_alloc_new),fun m hm=>Env.fA hm,.inr rfl⟩
theorem Ka(g:Good E h w)(hn:E.ι n=none)(e:newObj h n (.map [] 0)=some (h',n')):
  ki P E h n w (do pure (.value (<- Instr.makeMap t none))) (.val (.map (some n)) h' n'):=by
 refine AO (ob:=.map #[] 0) (v':=.map (some w.heap.size)) g hn e (fun E1 w1 q=>⟨rfl,#[],q,by simp[kI]⟩) ?_ ⟨w.heap.size,Env.fa,rfl⟩;simp[Instr.makeMap]
theorem PU(g:Good E h w)(hn:E.ι n=none)(rx:dD E x x')(e:B6 P t x h n=some r):
  ki P E h n w (do pure (.value (<- Instr.range t x'))) r:=by
 unfold B6 at e;split at e
 . rename_i s hu;simp only[dD]at rx;subst rx;cases ho:newObj h n (.nH s 0)with
   |none=>simp[ho]at e
   |some p=>
    obtain⟨h',n'⟩:=p;simp only[ho,an]at e;subst e;refine AO (ob:=.stringIter ⟨s.toArray⟩ 0) (v':=.pointer (some ⟨w.heap.size,0,none⟩)) g hn ho (fun E1 w1 q=>⟨rfl,q⟩) ?_ ⟨w.heap.size,0,Env.fa,by simp⟩;simp[Instr.range,dr hu]
 . cases e
theorem T8{b:Bool}{t:TypeId}{x':Value}{r:R}(g:Good E h w)(rx:dD E x x')(e:Pp x b h n=some r):
  ki P E h n w (do pure (.value (<- Instr.next x' b t))) r:=by
 unfold Pp at e;split at e
 . rename_i m;obtain⟨b0,s0,hi,rfl⟩:=rx;split at e
   . rename_i s pos hm;obtain⟨b1,s1,YX,fS,hb⟩:=g.rel m _ hm;rw[hi]at YX;cases YX;subst fS;have ug:=fe (P:=P) hb (by intro _ _ _ q;cases q);have xo:∀o',(setObj b0 o').run P w= .ok () { w with heap:=w.heap.setIfInBounds b0 o' }:=fun o'=>mN (P:=P) hb (by intro _ _ _ q;cases q);have fF:b0<w.heap.size:=(aQ.1 hb).1;have lW:(⟨s.toArray⟩:ByteArray).size=s.length:=by show s.toArray.size=_;simp
     split at e
     . rename_i hp;simp only at e;split at e
       . rename_i gJ;obtain rfl:=eo e;have J5:ir E h w E (h.set m (some (.nH s (pos+(Utf8.decode ⟨s.toArray⟩ pos).2)))) { w with heap:=w.heap.setIfInBounds b0 (.stringIter ⟨s.toArray⟩ (pos+(Utf8.decode ⟨s.toArray⟩ pos).2)) }:=by
          refine ir.write g gJ ⟨_,hm,rfl⟩ hi (by simp) rfl rfl rfl (fun x hx=>?_) ⟨rfl,?_⟩
          . simp[Ne.symm hx]
          . simp[fF]
         refine⟨E,_,.tuple #[.bool true,.int .i64 pos,.int .i32 (Utf8.decode ⟨s.toArray⟩ pos).1],.inl ?_,⟨[.bool true,.int .i64 pos,.int .i32 (Utf8.decode ⟨s.toArray⟩ pos).1],⟨_,_,rfl,⟨_,_,rfl,⟨_,_,rfl,rfl,rfl⟩,rfl⟩,rfl⟩,rfl⟩,J5,fun _ _=>rfl,.inl ⟨rfl,rfl⟩⟩;simp[Instr.next,ug,lW,hp,xo,goInt]
       . cases e
     . rename_i hp;obtain rfl:=eo e;refine dS g (v':=.tuple #[.bool false]) ?_ ⟨[.bool false],⟨_,_,rfl,rfl,rfl⟩,rfl⟩;simp[Instr.next,ug,lW,hp]
   . cases e
 . cases e
end
end
section
variable{P:Program}{E:Env}{h:Tr O}{n:Nat}{w:World}{fr:Tr V}{ρ:Operand->Value}
def mH(E:Env)(fr:Tr V)(ρ:Operand->Value)(x:Operand):Prop:=∀v,iI fr x=some v->dD E v (ρ x)
theorem uP:∀(xs:List Operand) (vs:ag),(∀x∈xs,mH E fr ρ x)->uF fr xs=some vs->dI E vs (xs.map ρ)
 | [],vs,_,e=>by simp only[uF,an]at e;subst e;rfl
 |x::xs,vs,hr,e=>by
  simp only[uF]at e;cases h1:iI fr x with
  |none=>simp[h1]at e
  |some v=>cases h2:uF fr xs with
   |none=>simp[h1,h2]at e
   |some r=>
    simp only[h1,h2,an]at e;subst e;exact⟨ρ x,xs.map ρ,hr x (by simp) v h1,uP xs r (fun y hy=>hr y (by simp[hy])) h2,rfl⟩
theorem td:∀(xs:List (Nat×Operand)) (vs:List (Nat×V)),(∀x∈xs.map (·.2),mH E fr ρ x)->qh fr xs=some vs->AL E vs (xs.map fun x=>(x.1,ρ x.2))
 | [],vs,_,e=>by simp only[qh,an]at e;subst e;rfl
 |(i,x)::xs,vs,hr,e=>by
  simp only[qh]at e;cases h1:iI fr x with
  |none=>simp[h1]at e
  |some v=>cases h2:qh fr xs with
   |none=>simp[h1,h2]at e
   |some r=>
    simp only[h1,h2,an]at e;subst e;exact⟨(i,ρ x),_,rfl,hr x (by simp) v h1,td xs r (fun y hy=>hr y (by simp at hy ⊢;exact .inr hy)) h2,rfl⟩
theorem xp{x:Option Operand}{v:Option V}(hr:∀y,x=some y->mH E fr ρ y)(e:mE fr x=some v):od E v (x.map ρ):=by
 cases x with
 |none=>simp only[mE,an]at e;subst e;rfl
 |some x=>
  simp only[mE]at e;cases h1:iI fr x with
  |none=>simp[h1]at e
  |some y=>simp only[h1,an]at e;subst e;exact⟨ρ x,hr x rfl y h1,rfl⟩
theorem fP{v:Option V}{r:R}(e:mT h n v=some r):∃x,v=some x/\r= .val x h n:=by
 cases v with
 |none=>simp[mT]at e
 |some x=>simp only[mT,an]at e;exact⟨x,rfl,e.symm⟩
theorem pR{f:FuncId}{args:Array Value}(hc:callee P f=true):(callFunc f args).run P w= .ok (.enter f args) w:=by
 unfold callee at hc;split at hc
 . rename_i fn hf;simp only[aC,bne_iff_ne,ne_eq]at hc;obtain⟨h1,h2⟩:=hc;have h3:fn.body.isNone=false:=by cases hb:fn.body<;>simp_all
   have h4:(fn.name == "runtime.NumGoroutine")=false:=by simpa using h2
   simp only[callFunc,Sem.run_bind,run_program,Result.andThen_ok,hf,h4,h3,aO,cG];rfl
 . cases hc
theorem Kb{c:Call}{ty:TypeId}{r:R}(g:Good E h w)(hn:E.ι n=none)(hr:∀x∈c.operands,mH E fr ρ x)(e:wL P fr c h n=some r):
  ki P E h n w (do let d <- resolve ρ c ty;invoke d.target d.args) r:=by
 unfold wL at e;split at e
 . rename_i args ha;have nJ:=uP (E:=E) (ρ:=ρ) c.args.toList args (fun x hx=>hr x (by simp[Call.operands];exact .inr (by simpa using hx))) ha;have F7:c.args.map ρ=(c.args.toList.map ρ).toArray:=by apply Array.ext';simp
   split at e
   . rename_i b hc;unfold lj at e;split at e
     . split at e
       . rename_i h2;have:=Ny (P:=P) (ty:=ty) g hn nJ e h2;simpa[resolve,hc,invoke,builtin,F7]using this
       . cases e
     . obtain⟨v,h1,rfl⟩:=fP e;have:=YU (P:=P) (n:=n) (ty:=ty) g nJ h1;simpa[resolve,hc,invoke,builtin,F7]using this
     . split at e
       . obtain⟨v,h1,rfl⟩:=fP e;have:=YV (P:=P) (n:=n) (eE:=c.argTypes) (ty:=ty) g nJ h1;simpa[resolve,hc,invoke,builtin,F7]using this
       . cases e
     . split at e
       . obtain⟨v,h1,rfl⟩:=fP e;have:=YW (P:=P) (n:=n) (eE:=c.argTypes) (ty:=ty) g nJ h1;simpa[resolve,hc,invoke,builtin,F7]using this
       . cases e
     . split at e
       . rename_i t v;obtain rfl:=eo e;obtain⟨x',_,⟨y,ry,rfl⟩,qn,hl⟩:=nJ;simp only[dI]at qn;subst qn;have h0:(c.args.map ρ).getD 0 .nilIface= .iface t y:=by rw[F7,hl];rfl
         refine⟨.iface t y,?_,y,ry,rfl⟩;simp only[resolve,hc,pure_bind,invoke,builtin];rw[h0];rfl
       . cases e
     . obtain rfl:=eo e;show _=_;simp[resolve,hc,invoke,builtin]
     . split at e
       . split at e
         . rename_i s7;obtain rfl:=eo e;have:=F6 (P:=P) (n:=n) (eE:=c.argTypes) (ty:=ty) g nJ s7;simpa[resolve,hc,invoke,builtin,F7]using this
         . cases e
       . cases e
     . split at e
       . rename_i pt m l ha0;split at e
         . rename_i e0 el AH s hp hm;split at e
           . rename_i hq;obtain⟨⟨q1,q2⟩,⟨rfl,q3⟩,q4,q5,q6⟩:=hq;obtain rfl:=eo e;have:=Bp (P:=P) (n:=n) (eE:=c.argTypes) (ty:=ty) g nJ ha0 q5 hp hm q1 q2 q3 q4 q6;simpa[resolve,hc,invoke,builtin,F7]using this
           . cases e
         . cases e
       . cases e
     . split at e
       . rename_i h2;have:=ND (P:=P) (ty:=ty) g nJ h2 e;simpa[resolve,hc,invoke,builtin,F7]using this
       . cases e
     . cases e
   . cases e
   . rename_i f hc;split at e
     . rename_i gf first captured hf
       split at e
       . rename_i uQ;obtain rfl:=eo e;obtain⟨f',fi,ca,NF,r1,r2,hfe⟩:=hr f (by simp[Call.operands,hc]) _ hf;simp only[yh]at NF;subst NF;refine⟨fi++c.args.toList.map ρ++ca,iz (iz r1 nJ) r2,.inl ⟨?_,uQ⟩⟩;have oF:=pR (w:=w) (args:=(fi++c.args.toList.map ρ++ca).toArray) uQ;simp only[resolve,hc,hfe,Deferred.ofValue,pure_bind,invoke];rw[<- oF];congr 2;apply Array.ext';simp
       . cases e
     . rename_i m hf;obtain⟨f',fi,ca,⟨l,s,iY,NF⟩,r1,r2,hfe⟩:=hr f (by simp[Call.operands,hc]) _ hf;subst NF;simp only[dI]at r1 r2;subst r1;subst r2;split at e
       . split at e
         . obtain rfl:=eo e;refine⟨c.args.toList.map ρ,nJ,.inr ⟨m,l,s,rfl,iY,?_⟩⟩;simp only[resolve,hc,hfe,Deferred.ofValue,pure_bind,invoke,F7];simp
         . cases e
       . cases e
     . cases e
 . cases e
theorem HU{c:Call}{ty:TypeId}{r:R}(hr:∀x∈c.operands,mH E fr ρ x)(e:B7 fr c=some r):
  ki P E h n w (do pure (.defer (<- resolve ρ c ty))) r:=by
 unfold B7 at e;split at e
 . rename_i args ha;have nJ:=uP (E:=E) (ρ:=ρ) c.args.toList args (fun x hx=>hr x (by simp[Call.operands];exact .inr (by simpa using hx))) ha;split at e
   . rename_i f hc;split at e
     . rename_i gf first captured hf
       obtain rfl:=eo e;obtain⟨f',fi,ca,NF,r1,r2,hfe⟩:=hr f (by simp[Call.operands,hc]) _ hf;simp only[yh]at NF;subst NF;refine⟨ca,fi++c.args.toList.map ρ,?_,r2,iz r1 nJ⟩;simp only[resolve,hc,hfe,Deferred.ofValue,pure_bind];show Result.ok _ w=_;congr 3;apply Array.ext';simp
     . cases e
   . cases e
 . cases e
set_option maxHeartbeats 1000000 in
theorem mI{o:Oper}{r:R}(g:Good E h w)(hn:E.ι n=none)(hr:∀x∈o.op.operands,mH E fr ρ x)(e:dz P o fr h n=some r):ki P E h n w (execOp ρ o) r:=by
 obtain⟨dst,op,ty,pos,after,guard⟩:=o;simp only at hr;cases op<;>simp only[dz]at e<;>simp only[Op.operands]at hr<;>simp only[execOp]
 case move x=>
  obtain⟨v,h1,rfl⟩:=fP e;exact dS g rfl (hr x (by simp) v h1)
 case assign x=>
  obtain⟨v,h1,rfl⟩:=fP e;exact dS g rfl (hr x (by simp) v h1)
 case pick c x y=>
  split at e
  . rename_i hc;obtain⟨v,h1,rfl⟩:=fP e;have rc:=hr c (by simp) _ hc;simp only[dD]at rc;exact dS g (by simp[rc,asBool]) (hr x (by simp) v h1)
  . rename_i hc;obtain⟨v,h1,rfl⟩:=fP e;have rc:=hr c (by simp) _ hc;simp only[dD]at rc;exact dS g (by simp[rc,asBool]) (hr y (by simp) v h1)
  . cases e
 case alloc t=>
  split at e
  . rename_i z hz;split at e
    . rename_i h' n' ho;obtain rfl:=eo e;exact PB g hn hz ho
    . cases e
  . cases e
 case box t x=>
  split at e
  . rename_i v hv;split at e
    . rename_i h' n' ho;obtain rfl:=eo e;exact YK g hn (hr x (by simp) v hv) ho
    . cases e
  . cases e
 case build t parts=>
  split at e
  . rename_i ps Ho;obtain⟨v,h1,rfl⟩:=fP e;have hp:=td (E:=E) (ρ:=ρ) parts.toList ps (fun x hx=>hr x (by simpa using hx)) Ho;have hq:AL E ps (parts.map fun(i,x)=>(i,ρ x)).toList:=by simpa using hp
    obtain⟨v',q1,q2⟩:=Ns (P:=P) (w:=w) hq h1;refine dS g (v':=v') ?_ q2;simp only[Sem.run_bind,q1,Result.andThen_ok,Sem.run_pure]
  . cases e
 case buildSlice t cO parts=>
  split at e
  . rename_i ps Ho;have hp:=td (E:=E) (ρ:=ρ) parts.toList ps (fun x hx=>hr x (by simpa using hx)) Ho;have hq:AL E ps (parts.map fun(i,x)=>(i,ρ x)).toList:=by simpa using hp
    have:=D6 (P:=P) (w:=w) (t:=t) (cO:=cO) g hn hq e;exact this
  . cases e
 case load t x=>
  split at e
  . rename_i v hv;obtain⟨u,h1,rfl⟩:=fP e;exact TX g (hr x (by simp) v hv) h1
  . cases e
 case store t x y=>
  split at e
  . rename_i a v ha hv;split at e
    . rename_i h' hs;obtain rfl:=eo e;exact PD g (hr x (by simp) a ha) (hr y (by simp) v hv) hs
    . cases e
  . cases e
 case nilCheck x=>
  split at e
  . rename_i p hv;obtain rfl:=eo e;have hx:=hr x (by simp) _ hv;obtain⟨b,s,q1,q2⟩:=hx;rw[q2];exact dS g (v':=.pointer (some ⟨b,s+p.2,none⟩)) rfl ⟨b,s,q1,rfl⟩
  . rename_i cs hv;obtain rfl:=eo e;have hx:=hr x (by simp) _ hv;obtain⟨b,o,c,vs,q1,q2⟩:=hx;rw[q1];exact dS g (v':=.pointer (some ⟨b,o,none⟩)) rfl ⟨b,o,c,vs,rfl,q2⟩
  . rename_i f a c hv;obtain rfl:=eo e;have hx:=hr x (by simp) _ hv;obtain⟨f',a',c',q0,q1,q2,q3⟩:=hx;simp only[yh]at q0;subst q0;rw[q3];exact dS g (v':=.func (.func f) a'.toArray c'.toArray) rfl ⟨_,a',c',rfl,q1,q2,rfl⟩
  . rename_i t v hv;obtain rfl:=eo e;have hx:=hr x (by simp) _ hv;obtain⟨y,q1,q2⟩:=hx;rw[q2];exact dS g (v':=.iface t y) rfl ⟨y,q1,rfl⟩
  . cases e
 case binOp op t x y yt=>
  split at e
  . rename_i a b ha hb;obtain⟨u,h1,rfl⟩:=fP e;exact PG g (hr x (by simp) a ha) (hr y (by simp) b hb) h1
  . cases e
 case unOp op t x=>
  split at e
  . rename_i v hv;obtain⟨u,h1,rfl⟩:=fP e;exact T0 g (hr x (by simp) v hv) h1
  . cases e
 case convert s d x=>
  split at e
  . rename_i v hv;exact J3 g hn (hr x (by simp) v hv) e
  . cases e
 case makeInterface t x=>
  split at e
  . rename_i v d hv hu;split at e
    . cases e
    . rename_i hd;obtain rfl:=eo e;have hx:=hr x (by simp) v hv;refine dS g (v':=.iface t (ρ x)) ?_ ⟨ρ x,hx,rfl⟩;simp only[Instr.makeInterface,Sem.run_bind,dr hu,Result.andThen_ok];cases d<;>first|(exact absurd rfl (hd _))|rfl
  . cases e
 case makeFunc f first captured=>
  split at e
  . rename_i a c ha hc;split at e
    case isFalse=>cases e
    rename_i hny;obtain rfl:=eo e;have TE:yh E f f:=by cases f<;>first|rfl|cases hny
    have r1:=uP (E:=E) (ρ:=ρ) first.toList a (fun x hx=>hr x (by simp at hx ⊢;exact .inl hx)) ha
    have r2:=uP (E:=E) (ρ:=ρ) captured.toList c (fun x hx=>hr x (by simp at hx ⊢;exact .inr hx)) hc;refine dS g (v':=.func f (first.map ρ) (captured.map ρ)) rfl ⟨f,first.toList.map ρ,captured.toList.map ρ,TE,r1,r2,?_⟩;congr 1<;>(apply Array.ext';simp)
  . cases e
 case makeMap t PV=>
  cases PV with
  |some _=>simp at e
  |none=>
   simp only at e;split at e
   . rename_i h' n' ho;obtain rfl:=eo e;exact Ka g hn ho
   . cases e
 case makeSlice t l c=>
  split at e
  . rename_i lv cv hl hc;exact F4 g hn (hr l (by simp) lv hl) (hr c (by simp) cv hc) e
  . cases e
 case slice t x lo hi mx=>
  split at e
  . rename_i v lov hiv mxv hv yC Mc hmx;obtain⟨u,h1,rfl⟩:=fP e;refine PL g (hr x (by simp) v hv) (xp (fun y hy=>hr y ?_) yC) (xp (fun y hy=>hr y ?_) Mc) (xp (fun y hy=>hr y ?_) hmx) h1
    . subst hy;simp
    . subst hy;simp
    . subst hy;simp
  . cases e
 case fieldAddr t x f=>
  split at e
  . rename_i v hv;obtain⟨u,h1,rfl⟩:=fP e;exact F1 g (hr x (by simp) v hv) h1
  . cases e
 case field t x f=>
  split at e
  . rename_i v hv;obtain⟨u,h1,rfl⟩:=fP e;exact PJ g (hr x (by simp) v hv) h1
  . cases e
 case indexAddr t x i=>
  split at e
  . rename_i v iv hv hi;obtain⟨u,h1,rfl⟩:=fP e;exact F2 g (hr x (by simp) v hv) (hr i (by simp) iv hi) h1
  . cases e
 case index t x i=>
  split at e
  . rename_i v iv hv hi;obtain⟨u,h1,rfl⟩:=fP e;exact PK g (hr x (by simp) v hv) (hr i (by simp) iv hi) h1
  . cases e
 case lookup t x k ok=>
  split at e
  . rename_i v kv hv hk;obtain⟨u,h1,rfl⟩:=fP e;exact NC g (hr x (by simp) v hv) (hr k (by simp) kv hk) h1
  . cases e
 case mapUpdate t m k v=>
  split at e
  . rename_i mv kv vv hm hk hv;exact yI g (hr m (by simp) mv hm) (hr k (by simp) kv hk) (hr v (by simp) vv hv) e
  . cases e
 case insert t m k v=>
  split at e
  . rename_i mv kv vv hm hk hv;exact yI g (hr m (by simp) mv hm) (hr k (by simp) kv hk) (hr v (by simp) vv hv) e
  . cases e
 case mapEntry t m k=>
  split at e
  . rename_i mv kv hm hk;exact HT g (hr m (by simp) mv hm) (hr k (by simp) kv hk) e
  . cases e
 case entryStore t m s v=>
  split at e
  . rename_i mv sv vv hm hs hv;exact Eb g (hr m (by simp) mv hm) (hr s (by simp) sv hs) (hr v (by simp) vv hv) e
  . cases e
 case range t x=>
  split at e
  . rename_i v hv;exact PU g hn (hr x (by simp) v hv) e
  . cases e
 case next it b=>
  split at e
  . rename_i v hv;exact T8 g (hr it (by simp) v hv) e
  . cases e
 case typeAssert x xt t ok=>
  split at e
  . rename_i v hv;obtain⟨u,h1,rfl⟩:=fP e;exact D8 g (hr x (by simp) v hv) h1
  . cases e
 case extract x i=>
  split at e
  . rename_i vs hv;obtain⟨u,h1,rfl⟩:=fP e;exact J1 g (hr x (by simp) _ hv) h1
  . cases e
 case panic x=>
  split at e
  . rename_i t v hv;obtain rfl:=eo e;obtain⟨y,q1,q2⟩:=hr x (by simp) _ hv;refine⟨.iface t y,?_,y,q1,rfl⟩;rw[q2];simp[Instr.panic]
  . cases e
 case call c=>exact Kb g hn hr e
 case defer c=>exact HU hr e
 all_goals (cases e)
end
def yJ(E:Env)(fr:Tr V)(a:Act):Prop:=∀t v,fr.get t=some v->∃v',a.tmps[t]? =some v'/\dD E v v'
theorem jW{E E':Env}(h:E.le E'){fr:Tr V}{a:Act}(r:yJ E fr a):yJ E' fr a:=fun t v e=>let⟨v',h1,h2⟩:=r t v e;⟨v',h1,ji h v v' h2⟩
section
variable(a:Act){E:Env}(dst:Option Tmp){fr:Tr V}
theorem iE(v:Value):(a.put dst v).tmps.size=a.tmps.size:=by cases dst<;>simp[Act.put]
theorem gA(v:Value):(a.put dst v).defers=a.defers:=by cases dst<;>rfl
def nl(N:Nat)(dst:Option Tmp):Prop:=∀d,dst=some d->d<N
theorem jE{fr':Tr V}{a:Act}{dst:Option Tmp}{v:V}{v':Value}(r:yJ E fr a)(e:iV fr dst v=some fr')(hv:dD E v v')(hd:nl a.tmps.size dst):yJ E fr' (a.put dst v'):=by
 cases dst with
 |none=>simp only[iV,an]at e;subst e;exact r
 |some d=>
  simp only[iV]at e;split at e
  . rename_i ht;obtain rfl:=eo e;intro t x hx;rw[Tr.eP _ _ _ ht]at hx;have fF:=hd d rfl;by_cases q:t=d
    . subst q;rw[aG rfl]at hx;cases hx;exact⟨v',by simp[Act.put,fF],hv⟩
    . rw[aI q]at hx;obtain⟨y,h1,h2⟩:=r t x hx;exact⟨y,by simp[Act.put,Ne.symm q,h1],h2⟩
  . cases e
theorem iF{a:Act}(ge:GE E)(r:yJ E fr a)(x:Operand):mH E fr a.eval x:=by
 intro v e;cases x with
 |tmp t=>obtain⟨v',h1,h2⟩:=r t v e;simp only[Act.eval,b7,h1];exact h2
 |const c=>exact zQ e
 |func f=>simp only[iI,an]at e;subst e;exact⟨_,[],[],rfl,rfl,rfl,rfl⟩
 |global g=>exact Hy ge e
end
theorem xq{E:Env}{ops:Array Oper}{o:Oper}{fr:Tr V}{a:Act}{b:Bool}(r:∀j JP q d,o.guard=some (j,JP)->ops[j]? =some q->q.dst=some d->∀v,fr.get d=some v->∃v',a.tmps[d]? =some v'/\dD E v v')(e:iy ops o fr=some b):
  Region.wanted o (yielded ops a.tmps)=b:=by
 unfold iy at e;unfold Region.wanted;cases hg:o.guard with
 |none=>simp only[hg,an]at e ⊢;exact e
 |some p=>
  obtain⟨j,JP⟩:=p;simp only[hg]at e ⊢;cases hj:ops[j]? with
  |none=>simp[hj]at e
  |some q=>
   simp only[hj]at e;cases hd:q.dst with
   |none=>simp[hd]at e
   |some d=>
    simp only[hd]at e;cases hf:fr.get d with
    |none=>simp[hf]at e
    |some v=>
     obtain⟨v',h1,h2⟩:=r j JP q d hg hj hd v hf;have hy:yielded ops a.tmps j=(match(some v':Option Value)with|some (.bool b)=>some b|_=>none):=by
      unfold yielded;rw[hj];simp only[Option.bind_some,hd,h1];cases v'<;>rfl
     cases v with
     |bool b0=>
      simp only[hf,an]at e;simp only[dD]at h2;subst h2;rw[hy,<- e];cases b0<;>cases JP<;>rfl
     |ew vs=>
      cases vs with
      |nil=>
       simp only[hf,an]at e;obtain⟨l,hl,rfl⟩:=h2;rw[hy,<- e];rfl
      |cons _ _=>simp[hf]at e
     |_=>simp[hf]at e
def qN(E:Env)(n:Nat):Prop:=∀m,n<=m->E.ι m=none
def tf(E:Env):Ps->Ending->Prop
 | .ret v,.returned v'=>dD E v v'
 | .zM v,.panicked chain=>∃v',dD E v v'/\chain=[{ v:=v',recovered:=false }]
 |_,_=>False
def fz(R:Option Nat):Fence:={ Fence.wide with round:=R }
def jX(E:Env)(h:Tr O)(n:Nat)(w:World)(tY:Ps)(h':Tr O)(n':Nat)(e:Ending)(w':World):Prop:=
 ∃E',ir E h w E' h' w'/\(∀m,m<n->E'.ι m=E.ι m)/\qN E' n'/\n<=n'/\tf E' tY e
def je(P:Program)(cf:fM):Prop:=∀f args h n tY h' n',cf f args h n=some (tY,h',n')->∀E w c9,dI E args c9->Good E h w->qN E n->
 (callee P f=true->Calls P f c9.toArray w (jX E h n w tY h' n'))/\
 (∀m l s,f=P.funcs.size+m->E.ι m=some (l,s)->YieldAt Fence.wide 0 P l c9.toArray w (jX E h n w tY h' n'))
theorem lu{R:Option Nat}{ρ:Operand->Value}{o:Oper}(h:∀c,o.op≠ .defer c):Oper.semAt R ρ o=execOp ρ o:=by
 cases R with
 |none=>exact Oper.semAt_none ..
 |some l=>exact Oper.semAt_some l ρ o h
theorem Kc{fr:Tr V}{c:Call}{r:R}(e:B7 fr c=some r):∃f a b,r= .my f a b:=by
 unfold B7 at e;split at e
 . split at e
   . split at e
     . simp only[an]at e;exact⟨_,_,_,e.symm⟩
     . cases e
   . cases e
 . cases e
section
variable{P:Program}{E:Env}{h h':Tr O}{n n':Nat}{w:World}{fr:Tr V}{a:Act}{o:Oper}{K:Act->World->Prop}{Q:Exit->Act->World->Prop}{uR:Option Nat}
theorem vW{r:R}(e:dz P o fr h n=some r)(hr:∀f a b,r≠ .my f a b):∀c,o.op≠ .defer c:=by
 intro c hc;simp only[dz,hc]at e;obtain⟨f,x,y,q⟩:=Kc e;exact hr f x y q
theorem Cr{v:V}(g:Good E h w)(hn:E.ι n=none)(hr:∀x∈o.op.operands,mH E fr a.eval x)(e:dz P o fr h n=some (.val v h' n'))
  (hk:∀E' w' v',dD E' v v'->ir E h w E' h' w'->(∀m,m≠n->E'.ι m=E.ι m)->((n'=n/\E'=E)\/n'=n+1)->K (a.put o.dst v') w'):o.wpIn (fz uR) 0 P a w K Q:=by
 obtain⟨E',w',v',fK,h1,h2,h3,h4⟩:=mI g hn hr e;refine⟨fun _ _=>trivial,?_⟩;rw[lu (vW e fun _ _ _=>by simp)];rcases fK with fK|⟨fK,rfl⟩
 . rw[fK,Oper.uponIn_value];exact hk E' w' v' h1 h2 h3 h4
 . rw[fK,Oper.uponIn_skip];exact hk E' w' undef h1 h2 h3 h4
theorem BB{cf:fM}{f:FuncId}{args:ag}{tY:Ps}(oF:je P cf)(g:Good E h w)(hn:qN E n)(hr:∀x∈o.op.operands,mH E fr a.eval x)
  (e:dz P o fr h n=some (.call f args)) (ec:cf f args h n=some (tY,h',n'))
  (hk:∀E' w',ir E h w E' h' w'->(∀m,m<n->E'.ι m=E.ι m)->qN E' n'->n<=n'->
   match tY with
   | .ret v=>∀v',dD E' v v'->K (a.put o.dst v') w'
   | .zM v=>∀v',dD E' v v'->Q (.panic [{ v:=v',recovered:=false }]) a w'):o.wpIn (fz uR) 0 P a w K Q:=by
 obtain⟨c9,h1,fK⟩:=mI g (hn n (aA _)) hr e;refine⟨fun _ _=>trivial,?_⟩;rw[lu (vW e fun _ _ _=>by simp)];have EH:∀en w',jX E h n w tY h' n' en w'->(match en,w' with
  | .returned v,w''=>K (a.put o.dst v) w''
  | .panicked chain,w''=>Q (.panic chain) a w''
  | .outgrown,_=>LetsOut Q):=fun en w' ⟨E',u1,u2,u3,u4,u5⟩=>by
  have:=hk E' w' u1 u2 u3 u4;cases tY with
  |ret v=>cases en with
   |returned v'=>exact this v' u5
   |panicked _=>exact u5.elim
   |outgrown=>exact u5.elim
  |zM v=>cases en with
   |returned v'=>exact u5.elim
   |panicked chain=>obtain⟨v',q1,rfl⟩:=u5;exact this v' q1
   |outgrown=>exact u5.elim
 rcases fK with⟨fK,h2⟩|⟨m,l,s,h2,h3,fK⟩
 . rw[fK,Oper.uponIn_enter];have hc:CallsIn Fence.wide (0-1) P f c9.toArray w _:=callsIn_wide.2 (((oF f args h n tY h' n' ec E w c9 h1 g hn).1 h2).mono EH);exact⟨fun hd=>by simp[fz,Fence.wide]at hd,hc⟩
 . obtain⟨fn,tmps,assign,body,q1,q2⟩:=(oF f args h n tY h' n' ec E w c9 h1 g hn).2 m l s h2 h3;rw[fK,q1,Oper.uponIn_round];have hc:RoundIn Fence.wide (0-1) P l fn tmps assign body w _:=q2.mono EH;exact⟨fun hd=>by simp[fz,Fence.wide]at hd,hc⟩
theorem PW{v:V}(g:Good E h w)(hn:E.ι n=none)(hr:∀x∈o.op.operands,mH E fr a.eval x)(e:dz P o fr h n=some (.panic v))
  (hk:∀v',dD E v v'->Q (.panic [{ v:=v',recovered:=false }]) a w):o.wpIn (fz uR) 0 P a w K Q:=by
 obtain⟨v',fK,h1⟩:=mI g hn hr e;refine⟨fun _ _=>trivial,?_⟩;rw[lu (vW e fun _ _ _=>by simp)];rw[fK,Oper.uponIn_panic];exact hk v' h1
theorem YY{f:FuncId}{c args:ag}(T9:uR=none)(g:Good E h w)(hn:E.ι n=none)(hr:∀x∈o.op.operands,mH E fr a.eval x)(e:dz P o fr h n=some (.my f c args))
  (hk:∀c' c9,dI E c c'->dI E args c9->K ({ a with defers:={ target:=.fn (.func f) c'.toArray,args:=c9.toArray }::a.defers }.put o.dst undef) w):o.wpIn (fz uR) 0 P a w K Q:=by
 subst T9;obtain⟨c',c9,fK,h1,h2⟩:=mI g hn hr e;refine⟨fun _ _=>trivial,?_⟩;show o.uponIn (fz none) 0 P a K Q ((Oper.semAt none a.eval o).run P w);rw[Oper.semAt_none,fK,Oper.uponIn_defer];exact hk c' c9 h1 h2
end
def Sub(x y:Tr O):Prop:=∀k b,x.get k=some b->y.get k=some b
section
variable{P:Program}{fr:Tr V}{x:Tr O}{n:Nat}
theorem HV{o:Oper}{r:R}(hp:qi o.op=true)(e:dz P o fr x n=some r):∃v,r= .val v x n/\∀(y:Tr O) (k:Nat),dz P o fr y k=some (.val v y k):=by
 obtain⟨dst,op,ty,pos,after,guard⟩:=o;simp only at hp;cases op<;>simp only[qi]at hp<;>first|(cases hp;done)|skip
 all_goals simp only[dz]at e
 case move a=>obtain⟨v,h1,rfl⟩:=fP e;exact⟨v,rfl,fun y k=>by simp only[dz,h1,mT]⟩
 case assign a=>obtain⟨v,h1,rfl⟩:=fP e;exact⟨v,rfl,fun y k=>by simp only[dz,h1,mT]⟩
 case pick c a b=>
  split at e
  . rename_i hc;obtain⟨v,h1,rfl⟩:=fP e;exact⟨v,rfl,fun y k=>by simp only[dz,hc,h1,mT]⟩
  . rename_i hc;obtain⟨v,h1,rfl⟩:=fP e;exact⟨v,rfl,fun y k=>by simp only[dz,hc,h1,mT]⟩
  . cases e
 case build t parts=>
  split at e
  . rename_i ps hc;obtain⟨v,h1,rfl⟩:=fP e;exact⟨v,rfl,fun y k=>by simp only[dz,hc,h1,mT]⟩
  . cases e
 case nilCheck a=>
  split at e
  . rename_i p hc;obtain rfl:=eo e;exact⟨_,rfl,fun y k=>by simp only[dz,hc]⟩
  . rename_i hc;obtain rfl:=eo e;exact⟨_,rfl,fun y k=>by simp only[dz,hc]⟩
  . rename_i hc;obtain rfl:=eo e;exact⟨_,rfl,fun y k=>by simp only[dz,hc]⟩
  . rename_i t v hc;obtain rfl:=eo e;exact⟨_,rfl,fun y k=>by simp only[dz,hc]⟩
  . cases e
 case binOp op t a b yt=>
  split at e
  . rename_i u w h1 h2;obtain⟨v,h3,rfl⟩:=fP e;exact⟨v,rfl,fun y k=>by simp only[dz,h1,h2,h3,mT]⟩
  . cases e
 case unOp op t a=>
  split at e
  . rename_i u h1;obtain⟨v,h3,rfl⟩:=fP e;exact⟨v,rfl,fun y k=>by simp only[dz,h1,h3,mT]⟩
  . cases e
 case makeInterface t a=>
  split at e
  . rename_i v d h1 h2;split at e
    . cases e
    . rename_i hd;obtain rfl:=eo e;refine⟨_,rfl,fun y k=>?_⟩;simp only[dz,h1,h2]
  . cases e
 case makeFunc f a c=>
  split at e
  . rename_i u w h1 h2;split at e
    case isFalse=>cases e
    rename_i hny;obtain rfl:=eo e;exact⟨_,rfl,fun y k=>by simp only[dz,h1,h2,hny,if_true]⟩
  . cases e
 case fieldAddr t a f=>
  split at e
  . rename_i u h1;obtain⟨v,h3,rfl⟩:=fP e;exact⟨v,rfl,fun y k=>by simp only[dz,h1,h3,mT]⟩
  . cases e
 case field t a f=>
  split at e
  . rename_i u h1;obtain⟨v,h3,rfl⟩:=fP e;exact⟨v,rfl,fun y k=>by simp only[dz,h1,h3,mT]⟩
  . cases e
 case indexAddr t a i=>
  split at e
  . rename_i u w h1 h2;obtain⟨v,h3,rfl⟩:=fP e;exact⟨v,rfl,fun y k=>by simp only[dz,h1,h2,h3,mT]⟩
  . cases e
 case index t a i=>
  split at e
  . rename_i u w h1 h2;obtain⟨v,h3,rfl⟩:=fP e;exact⟨v,rfl,fun y k=>by simp only[dz,h1,h2,h3,mT]⟩
  . cases e
 case typeAssert a s t ok=>
  split at e
  . rename_i u h1;obtain⟨v,h3,rfl⟩:=fP e;exact⟨v,rfl,fun y k=>by simp only[dz,h1,h3,mT]⟩
  . cases e
 case extract a i=>
  split at e
  . rename_i vs h1;obtain⟨v,h3,rfl⟩:=fP e;exact⟨v,rfl,fun y k=>by simp only[dz,h1,h3,mT]⟩
  . cases e
section
variable{t:TypeId}{o:Oper}{a:V}{r:R}
theorem HW{v:V}{y:Tr O}(hs:Sub x y)(e:loadAt P t x a=some v):loadAt P t y a=some v:=by
 unfold loadAt at e ⊢;split at e
 . rename_i m o;split at e
   . rename_i cs hm;simp only[hs m _ hm];exact e
   . rename_i k ks hm;simp only[hs m _ hm];exact e
   . rename_i k ks hm;simp only[hs m _ hm];exact e
   . rename_i cs hm;simp only[hs m _ hm];exact e
   . rename_i T self x0 hm;simp only[hs m _ hm];exact e
   . cases e
 . exact e
 . cases e
theorem F8{m k:Nat}{y:Tr O}(hs:Sub x y)(e:yd x m k=true):yd y m k=true:=by
 unfold yd at e ⊢;split at e
 . rename_i cs hm;simp only[hs m _ hm];exact e
 . cases e
theorem HX{v:V}{lo hi mx:Option V}{y:Tr O}(hs:Sub x y)(e:mC P t x a lo hi mx=some v):mC P t y a lo hi mx=some v:=by
 unfold mC at e ⊢;split at e
 . cases e
 . rename_i h0;rw[aI h0];split at e
   . exact e
   . exact e
   . exact e
   . rename_i nn el b o hu;cases h1:kQ P el with
     |none=>simp[h1]at e
     |some s=>cases h2:eK nn nn mx with
      |none=>simp[h1,h2]at e
      |some m=>cases h3:eK nn m hi with
       |none=>simp[h1,h2,h3]at e
       |some hh=>cases h4:eK 0 hh lo with
        |none=>simp[h1,h2,h3,h4]at e
        |some l=>
         simp only[h1,h2,h3,h4]at e ⊢;split at e
         . rename_i hq;rw[aG ⟨hq.1,hq.2.1,F8 hs hq.2.2⟩];exact e
         . cases e
   . cases e
theorem F9{k v:V}{ok:Bool}{y:Tr O}(hs:Sub x y)(e:vL P t x a k ok=some v):vL P t y a k ok=some v:=by
 unfold vL at e ⊢;split at e
 . split at e
   . cases a with
     |map m=>
      cases m with
      |none=>exact e
      |some m=>
       simp only[V.Xh]at e ⊢;cases hm:x.get m with
       |none=>simp[hm]at e
       |some o=>
        have hy:=hs m o hm;rw[hy];rw[hm]at e;cases o with
        |dF kk es=>exact e
        |_=>simp only[hy];simp only[hm]at e;exact e
     |_=>exact e
   . cases e
 . cases e
theorem NG{ts:Array TypeId}{as:ag}{v:V}{y:Tr O}(hs:Sub x y)(e:No P ts as x=some v):No P ts as y=some v:=by
 unfold No at e ⊢;split at e
 . split at e
   . exact e
   . exact e
   . exact e
   . exact e
   . exact e
   . rename_i m hu;cases hm:x.get m with
     |none=>simp[hm]at e
     |some o=>
      simp only[hs m o hm];simp only[hm]at e;exact e
   . cases e
 . cases e
theorem Ke{o:O}{p:Tr O×Nat}(e:newObj x n o=some p)(y:Tr O):n<fL/\p=(x.set n (some o),n+1)/\newObj y n o=some (y.set n (some o),n+1):=by
 obtain⟨h',n'⟩:=p;obtain⟨h1,rfl,rfl⟩:=kN e;exact⟨h1,rfl,by simp[newObj,h1]⟩
def uT(P:Program)(o:Oper)(fr:Tr V)(x:Tr O)(n:Nat)(r:R):Prop:=
 (∃v,r= .val v x n/\∀y,Sub x y->dz P o fr y n=some (.val v y n)) \/
 (∃v b,n<fL/\r= .val v (x.set n (some b)) (n+1)/\∀y,dz P o fr y n=some (.val v (y.set n (some b)) (n+1)))
theorem uT.alloc{ob:O}{v:V}{h':Tr O}{n':Nat}(e:newObj x n ob=some (h',n'))(k:∀(y h2:Tr O) (m:Nat),newObj y n ob=some (h2,m)->dz P o fr y n=some (.val v h2 m)):uT P o fr x n (.val v h' n'):=by
 obtain⟨h1,rfl,rfl⟩:=kN e;exact .inr ⟨v,ob,h1,rfl,fun y=>k y _ _ (Ke e y).2.2⟩
theorem Ec(hp:qi o.op=true)(e:dz P o fr x n=some r):uT P o fr x n r:=by
 obtain⟨v,h1,h2⟩:=HV hp e;exact .inl ⟨v,h1,fun y _=>h2 y n⟩
theorem quiet(hq:qR o.op=false)(e:dz P o fr x n=some r):uT P o fr x n r:=by
 by_cases hp:qi o.op=true
 . exact Ec hp e
 have e0:=e;obtain⟨dst,op,ty,pos,after,guard⟩:=o;simp only at hq hp;cases op<;>simp only[qR]at hq<;>first|(cases hq;done)|skip
 all_goals first|(exact absurd rfl hp)|skip
 all_goals simp only[dz]at e
 case alloc t=>
  split at e
  . rename_i z hz;split at e
    . rename_i h' n' ho;obtain rfl:=eo e;exact uT.alloc ho fun y h2 m q=>by simp only[dz,hz,q]
    . cases e
  . cases e
 case box t a=>
  split at e
  . rename_i v hv;split at e
    . rename_i h' n' ho;obtain rfl:=eo e;exact uT.alloc ho fun y h2 m q=>by simp only[dz,hv,q]
    . cases e
  . cases e
 case buildSlice t cO parts=>
  split at e
  . rename_i ps Ho;unfold oB at e;split at e
    . rename_i el he;split at e
      . rename_i s z hs hz;split at e
        . rename_i hc;split at e
          . rename_i cs hf;split at e
            . rename_i h' n' ho;obtain rfl:=eo e;exact uT.alloc ho fun y h2 m q=>by
               simp only[dz,Ho,oB,he,hs,hz];rw[aG hc];simp only[hf,q]
            . cases e
          . cases e
        . cases e
      . cases e
    . cases e
  . cases e
 case load t a=>
  split at e
  . rename_i v hv;obtain⟨u,h1,rfl⟩:=fP e;exact .inl ⟨u,rfl,fun y hs=>by simp only[dz,hv,HW hs h1,mT]⟩
  . cases e
 case convert s d a=>
  split at e
  . rename_i v hv;unfold qg at e;split at e
    . rename_i h1 h2;obtain rfl:=eo e;exact .inl ⟨_,rfl,fun y hs=>by simp only[dz,hv,qg,h1,h2]⟩
    . rename_i h1 h2;obtain rfl:=eo e;exact .inl ⟨_,rfl,fun y hs=>by simp only[dz,hv,qg,h1,h2]⟩
    . rename_i h1 h2;split at e
      . rename_i h3;split at e
        . rename_i h' n' ho;obtain rfl:=eo e;exact uT.alloc ho fun y T3 m q=>by simp only[dz,hv,qg,h1,h2,h3,q]
        . cases e
      . cases e
    . rename_i h1 h2;split at e
      . rename_i h3;obtain rfl:=eo e;exact .inl ⟨_,rfl,fun y hs=>by simp only[dz,hv,qg,h1,h2,h3]⟩
      . cases e
    . rename_i h1 h2;split at e
      . rename_i h3;obtain rfl:=eo e;exact .inl ⟨_,rfl,fun y hs=>by simp only[dz,hv,qg,h1,h2,h3]⟩
      . cases e
    . rename_i h1 h2;split at e
      . rename_i h3;split at e
        . rename_i h4;have key:∀y:Tr O,Sub x y->∀m,AI (x.get m)=AI (y.get m)\/x.get m=none:=fun y hs m=>by
           cases hm:x.get m with
           |none=>exact .inr rfl
           |some o=>rw[hs m o hm];exact .inl rfl
          have adp:∀y:Tr O,Sub x y->∀m,uy (x.get m)=uy (y.get m)\/x.get m=none:=fun y hs m=>by
           cases hm:x.get m with
           |none=>exact .inr rfl
           |some o=>rw[hs m o hm];exact .inl rfl
          rename_i m0 o0 ar2 _ _ _;split at e
          . rename_i s0 FY;split at e
            . rename_i hl;obtain rfl:=eo e;refine .inl ⟨_,rfl,fun y hs=>?_⟩;simp only[dz,hv,qg,h1,h2,h3];rw[aG h4];rcases adp y hs m0 with q|q
              . rw[<- q,FY];simp only[aG hl]
              . rw[q]at FY;cases FY
            . cases e
          . rename_i aje;split at e
            . rename_i ks DY;split at e
              . rename_i hl;obtain rfl:=eo e;refine .inl ⟨_,rfl,fun y hs=>?_⟩;simp only[dz,hv,qg,h1,h2,h3];rw[aG h4];rcases adp y hs m0 with q|q
                . rw[<- q,aje];rcases key y hs m0 with q|q
                  . rw[<- q,DY];simp only[aG hl]
                  . rw[q]at DY;cases DY
                . rw[q]at DY;cases DY
              . cases e
            . rename_i DY;split at e
              . obtain rfl:=eo e;refine .inl ⟨_,rfl,fun y hs=>?_⟩;simp only[dz,hv,qg,h1,h2,h3];rw[aG h4];cases uy (y.get m0)with
                |some s0=>simp
                |none=>
                 cases AI (y.get m0)with
                 |none=>rfl
                 |some ks=>simp[eN]
              . split at e
                . rename_i cs hm;split at e
                  . rename_i bs hc;split at e
                    . rename_i s' ht;obtain rfl:=eo e;refine .inl ⟨_,rfl,fun y hs=>?_⟩;simp only[dz,hv,qg,h1,h2,h3];rw[aG h4];simp only[hs _ _ hm,uy,AI,hc,ht]
                    . cases e
                  . cases e
                . cases e
        . cases e
      . cases e
    . cases e
  . cases e
 case makeMap t PV=>
  cases PV with
  |some _=>simp at e
  |none=>
   simp only at e;split at e
   . rename_i h' n' ho;obtain rfl:=eo e;exact uT.alloc ho fun y h2 m q=>by simp only[dz,q]
   . cases e
 case makeSlice t l c=>
  split at e
  . rename_i lv cv h1 h2;unfold nT at e;split at e
    . rename_i el k l0 k' c0 he;split at e
      . rename_i i z h3 h4;simp only at e;split at e
        . rename_i hc;split at e
          . rename_i h' n' ho;obtain rfl:=eo e;exact uT.alloc ho fun y T3 m q=>by
             simp only[dz,h1,h2,nT,he,h3,h4];rw[aG hc];simp only[q]
          . cases e
        . cases e
      . cases e
    . cases e
  . cases e
 case slice t a lo hi mx=>
  split at e
  . rename_i v lov hiv mxv h1 h2 h3 h4;obtain⟨u,h5,rfl⟩:=fP e;exact .inl ⟨u,rfl,fun y hs=>by simp only[dz,h1,h2,h3,h4,HX hs h5,mT]⟩
  . cases e
 case lookup t a k ok=>
  split at e
  . rename_i v kv h1 h2;obtain⟨u,h5,rfl⟩:=fP e;exact .inl ⟨u,rfl,fun y hs=>by simp only[dz,h1,h2,F9 hs h5,mT]⟩
  . cases e
 case range t a=>
  split at e
  . rename_i v hv;unfold B6 at e;split at e
    . rename_i s hu;split at e
      . rename_i h' n' ho;obtain rfl:=eo e;exact uT.alloc ho fun y T3 m q=>by simp only[dz,hv,B6,hu,q]
      . cases e
    . cases e
  . cases e
 case call c=>
  obtain⟨cal,args,ats⟩:=c;cases cal with
  |value f=>simp at hq
  |invoke f m=>simp at hq
  |builtin b=>
   simp only[wL]at e;split at e
   . rename_i as ha;cases b<;>simp only[]at hq<;>first|(cases hq;done)|skip
     . simp only[lj]at e;obtain⟨u,h5,rfl⟩:=fP e;exact .inl ⟨u,rfl,fun y hs=>by simp only[dz,wL,ha,lj,NG hs h5,mT]⟩
     . simp only[lj]at e;split at e
       . obtain⟨u,h5,rfl⟩:=fP e;exact .inl ⟨u,rfl,fun y hs=>by simp only[dz,wL,ha,lj,h5,mT]⟩
       . cases e
     . simp only[lj]at e;split at e
       . obtain⟨u,h5,rfl⟩:=fP e;exact .inl ⟨u,rfl,fun y hs=>by simp only[dz,wL,ha,lj,h5,mT]⟩
       . cases e
   . cases e
 all_goals (cases e)
end
end
theorem Cs(l:List Oper)(o:Oper):pD (l++[o])=pD l++[eM (pD l) o.after.toList]:=by simp[pD]
theorem wP:∀(l:List Oper) (gr:List Nat),(l.foldl (fun gr o=>gr++[eM gr o.after.toList]) gr).length=gr.length+l.length
 | [],gr=>by simp
 |o::l,gr=>by simp only[List.foldl_cons];rw[wP l];simp;omega
theorem Ga(l:List Oper):(pD l).length=l.length:=by unfold pD;rw[wP];simp
def lZ(ops:Array Oper)(j:Nat):Nat:=match ops[j]? with
 |some o=>eM (pD (ops.toList.take j)) o.after.toList
 |none=>0
theorem EI{α:Type}{l:List α}{i:Nat}{o:α}(h:l[i]? =some o):l.take (i+1)=l.take i++[o]:=by
 rw[bJ,h];rfl
theorem nr(ops:Array Oper):∀i,i<=ops.size->∀k,k<i->(pD (ops.toList.take i)).getD k 0=lZ ops k
 |0,_,k,hk=>by omega
 |i+1,hi,k,hk=>by
  have ho:ops.toList[i]? =some ops[i]:=by rw[bL];exact bn be
  rw[EI ho,Cs];have hl:(pD (ops.toList.take i)).length=i:=by rw[Ga];simp;omega
  by_cases q:k<i
  . rw[aN,bA be,<- aN];exact nr ops i be k q
  . have:k=i:=by omega
    subst this;rw[aN,cj be,hl];simp only[Nat.sub_self,bG,Option.getD_some];unfold lZ;rw[<- bL,ho]
theorem zY(a b i:Nat):dY (a|||b) i=(dY a i||dY b i):=Nat.testBit_or a b i
theorem Ct(k i:Nat):dY (2^k) i=decide (k=i):=Nat.testBit_two_pow
theorem kr(i:Nat):dY 0 i=false:=Nat.zero_testBit i
theorem xu(ef:List Nat)(k:Nat):∀es:List Edge,dY (eM ef es) k=true↔∃e∈es,Region.binds .any e=true/\(e.on=k\/dY (ef.getD e.on 0) k=true)
 | []=>by simp[eM,kr]
 |e::es=>by
  simp only[eM];by_cases hb:Region.binds .any e=true
  . rw[aG hb,zY,zY,Ct,bU,bU,xu ef k es];simp only[bC,aE];constructor
    . rintro(⟨x,h1,h2,h3⟩|h|h)
      . exact⟨x,.inr h1,h2,h3⟩
      . exact⟨e,.inl rfl,hb,.inl h⟩
      . exact⟨e,.inl rfl,hb,.inr h⟩
    . rintro⟨x,rfl|h1,h2,h3⟩
      . exact .inr h3
      . exact .inl ⟨x,h1,h2,h3⟩
  . rw[aI hb,xu ef k es];simp only[aE];constructor
    . rintro⟨x,h1,h2,h3⟩;exact⟨x,.inr h1,h2,h3⟩
    . rintro⟨x,rfl|h1,h2,h3⟩
      . exact absurd h2 hb
      . exact⟨x,h1,h2,h3⟩
def vX(ops:Array Oper):Prop:=∀(j:Nat) (o:Oper),ops[j]? =some o->∀e∈o.after,Region.binds .any e=true->e.on<j
section
variable{ops:Array Oper}
theorem yK(he:vX ops){j k:Nat}{o:Oper}(ho:ops[j]? =some o):
  dY (lZ ops j) k=true↔∃e∈o.after,Region.binds .any e=true/\(e.on=k\/dY (lZ ops e.on) k=true):=by
 have hj:j<ops.size:=(aQ.1 ho).1;unfold lZ;simp only[ho];rw[xu];constructor
 . rintro⟨e,h1,h2,h3⟩;have mz:e∈o.after:=by simpa using h1
   have fF:=he j o ho e mz h2;refine⟨e,mz,h2,h3.imp id fun q=>?_⟩;rw[nr ops j be e.on fF]at q;exact q
 . rintro⟨e,h1,h2,h3⟩;have fF:=he j o ho e h1 h2;refine⟨e,by simpa using h1,h2,h3.imp id fun q=>?_⟩;rw[nr ops j be e.on fF];exact q
theorem Kf(he:vX ops):∀j k,dY (lZ ops j) k=true->k<j:=by
 intro j
 induction j using Nat.strongRecOn with
 |_ j ih=>
  intro k h;cases ho:ops[j]? with
  |none=>simp[lZ,ho,kr]at h
  |some o=>
   obtain⟨e,h1,h2,h3⟩:=(yK he ho).1 h;have fF:=he j o ho e h1 h2;rcases h3 with rfl|h3
   . exact fF
   . exact Nat.lt_trans (ih e.on fF k h3) fF
theorem EJ(he:vX ops):∀j i k,dY (lZ ops j) i=true->dY (lZ ops i) k=true->dY (lZ ops j) k=true:=by
 intro j
 induction j using Nat.strongRecOn with
 |_ j ih=>
  intro i k h h';cases ho:ops[j]? with
  |none=>simp[lZ,ho,kr]at h
  |some o=>
   obtain⟨e,h1,h2,h3⟩:=(yK he ho).1 h;have fF:=he j o ho e h1 h2;refine(yK he ho).2 ⟨e,h1,h2,.inr ?_⟩;rcases h3 with rfl|h3
   . exact h'
   . exact ih e.on fF i k h3 h'
theorem Cu(he:vX ops){S:Nat->Prop}(hS:∀j o,S j->ops[j]? =some o->∀e∈o.after,Region.binds .any e=true->S e.on):
  ∀j k,S j->dY (lZ ops j) k=true->S k:=by
 intro j
 induction j using Nat.strongRecOn with
 |_ j ih=>
  intro k hj h;cases ho:ops[j]? with
  |none=>simp[lZ,ho,kr]at h
  |some o=>
   obtain⟨e,h1,h2,h3⟩:=(yK he ho).1 h;have hs:=hS j o hj ho e h1 h2;rcases h3 with rfl|h3
   . exact hs
   . exact ih e.on (he j o ho e h1 h2) k hs h3
end
structure mO(ops:Array Oper)(N:Nat):Prop where
 yL:vX ops
 dst:∀(j:Nat) (o:Oper),ops[j]? =some o->nl N o.dst
 one:∀(i j:Nat) (o q:Oper) (t:Nat),ops[i]? =some o->ops[j]? =some q->o.dst=some t->q.dst=some t->i=j
 use:∀(i j:Nat) (o q:Oper) (t:Nat),ops[i]? =some o->ops[j]? =some q->i≠j->o.dst=some t->t∈uH ops q->if i<j then dY (lZ ops j) i=true else dY (lZ ops i) j=true
theorem Kg{ops:Array Oper}{N:Nat}(h:Pu ops N=true):mO ops N:=by
 unfold Pu at h;rw[bq]at h;have at_:∀j o,ops[j]? =some o->(o.after.toList.all (fun e=>!Region.binds .any e||decide (e.on<j))=true/\(match o.dst with|some d=>decide (d<N)|none=>true)=true/\
   ∀i,i<ops.size->i≠j->FT ops (pD ops.toList) i j=true):=by
  intro j o ho;have hj:j<ops.size:=(aQ.1 ho).1;have:=h j (List.mem_range.2 hj);simp only[ho,aC,bq,List.mem_range]at this;obtain⟨⟨h1,h2⟩,h3⟩:=this;refine⟨by rw[bq];exact h1,h2,fun i hi fN=>?_⟩;have:=h3 i hi;simp only[bU]at this;rcases this with q|q
  . exact absurd (aD q) fN
  . exact q
 have hm:∀j,j<ops.size->(pD ops.toList).getD j 0=lZ ops j:=fun j hj=>by
  have:=nr ops ops.size (aA _) j hj;rwa [show ops.toList.take ops.size=ops.toList from by rw[br];simp]at this
 refine⟨?_,?_,?_,?_⟩
 . intro j o ho e he hb;obtain⟨h1,_,_⟩:=at_ j o ho;rw[bq]at h1;have:=h1 e (by simpa using he);simp only[hb,Bool.not_true,Bool.false_or,bC]at this;exact this
 . intro j o ho d hd;obtain⟨_,h2,_⟩:=at_ j o ho;rw[hd]at h2;simpa using h2
 . intro i j o q t hi hj ho hq;by_cases e:i=j
   . exact e
   . obtain⟨_,_,h3⟩:=at_ j q hj;have:=h3 i (aQ.1 hi).1 e;simp only[FT,hi,hj,ho,hq,aC,Bool.not_eq_true']at this;have h1:=this.1;rw[cM]at h1;cases h1
 . intro i j o q t hi hj fN ho ht;obtain⟨_,_,h3⟩:=at_ j q hj;have PX:=(aQ.1 hi).1;have Pa:=(aQ.1 hj).1;have:=h3 i PX fN;have hc:(uH ops q).contains t=true:=by simpa using ht
   simp only[FT,hi,hj,ho,aC,hc,if_true,hm i PX,hm j Pa]at this;have h2:=this.2;split
   . rename_i q;rw[aG q]at h2;exact h2
   . rename_i q;rw[aI q]at h2;exact h2
abbrev xw:=Nat×Nat×Tr O×Nat
def eD(h0:Tr O)(c0:Nat)(dy:List xw):Nat->Nat×Tr O×Nat
 |0=>(0,h0,c0)
 |c+1=>match dy[c]? with
  |some e=>e.2
  |none=>(0,h0,c0)
section
variable{h0:Tr O}{c0:Nat}{dy:List xw}{e:xw}
theorem qq{c:Nat}(h:c<=dy.length):eD h0 c0 (dy++[e]) c=eD h0 c0 dy c:=by
 cases c with
 |zero=>rfl
 |succ c=>simp only[eD];rw[bA be]
theorem xx:eD h0 c0 (dy++[e]) (dy.length+1)=e.2:=by
 simp[eD]
end
def tg(h0:Tr O)(c0:Nat)(dy:List xw):Nat->List (Nat×Nat×Tr O)
 |0=>[]
 |c+1=>match dy[c]? with
  |some e=>(e.1,(eD h0 c0 dy c).1,(eD h0 c0 dy c).2.1)::tg h0 c0 dy c
  |none=>tg h0 c0 dy c
theorem AP{h0:Tr O}{c0:Nat}{dy:List xw}{e:xw}:∀c,c<=dy.length->tg h0 c0 (dy++[e]) c=tg h0 c0 dy c
 |0,_=>rfl
 |c+1,h=>by
  simp only[tg];rw[bA be,qq be,AP c be]
structure zZ(ops:Array Oper)(ko:Tr V)(val:Nat->V)(j:Nat)(fr:Tr V):Prop where
 new:∀(i:Nat) (o:Oper) (t:Nat),i<j->ops[i]? =some o->o.dst=some t->fr.get t=some (val i)
 old:∀(t:Nat),(∀(i:Nat) (o:Oper),i<j->ops[i]? =some o->o.dst≠some t)->fr.get t=ko.get t
section
variable(P:Program)(cf:fM)(ops:Array Oper)(n0:Nat)(h0:Tr O)(ko:Tr V)
def uU(val:Nat->V)(cW:af)(reads:List (Nat×Nat×Oper×Tr V×V))(dy:List xw)(j:Nat)(o:Oper):Prop:=
 ∃fr,zZ ops ko val j fr/\
  ((iy ops o fr=some false/\val j= .ew []) \/
   (iy ops o fr=some true/\qR o.op=false/\(∃b,(j,b)∈cW/\n0+j<fL/\∀y,dz P o fr y (n0+j)=some (.val (val j) (y.set (n0+j) (some b)) (n0+j+1)))) \/
   (iy ops o fr=some true/\qR o.op=false/\(∀y,dz P o fr y (n0+j)=some (.val (val j) y (n0+j)))) \/
   (iy ops o fr=some true/\qR o.op=false/\(j,lZ ops j,o,fr,val j)∈reads/\
    ∀c,c<=dy.length->(∀(c':Nat) (e:xw),c<=c'->dy[c']? =some e->dY (lZ ops j) e.1=false)->(∀(c':Nat) (e:xw),c'<c->dy[c']? =some e->dY e.2.1 j=false)->
     ∃y,dz P o fr (gO n0 cW (eD h0 (n0+ops.size) dy c).1 (eD h0 (n0+ops.size) dy c).2.1 (lZ ops j)) (n0+j)=some (.val (val j) y (n0+j))) \/
   (iy ops o fr=some true/\qR o.op=true/\∃c h n,dy[c]? =some (j,lZ ops j,h,n)/\
    (let x:=eD h0 (n0+ops.size) dy c
     (dz P o fr (gO n0 cW x.1 x.2.1 (lZ ops j)) x.2.2=some (.val (val j) h n)) \/
     ∃f args,dz P o fr (gO n0 cW x.1 x.2.1 (lZ ops j)) x.2.2=some (.call f args)/\cf f args (gO n0 cW x.1 x.2.1 (lZ ops j)) x.2.2=some (.ret (val j),h,n))))
def rS(val:Nat->V)(j:Nat)(o:Oper)(b:O):Prop:=
 ∃fr,zZ ops ko val j fr/\iy ops o fr=some true/\qR o.op=false/\n0+j<fL/\b.wr=true/\∀y,dz P o fr y (n0+j)=some (.val (val j) (y.set (n0+j) (some b)) (n0+j+1))
structure oG(val:Nat->V)(dy:List xw)(i:Nat)(d:Dr):Prop where
 ef:d.ef=pD (ops.toList.take i)
 fr:zZ ops ko val i d.fr
 cur:d.cur=((eD h0 (n0+ops.size) dy dy.length).1,(eD h0 (n0+ops.size) dy dy.length).2.1)
 n:d.n=(eD h0 (n0+ops.size) dy dy.length).2.2
 pJ:d.pJ=tg h0 (n0+ops.size) dy dy.length
 last:d.last=(dy.getLast?).map (·.1)
 uV:∀(c:Nat) (e:xw),dy[c]? =some e->e.1<i/\∃o:Oper,ops[e.1]? =some o/\qR o.op=true/\e.2.1=lZ ops e.1
 cW:∀x∈d.cW,x.1<i
 one:∀(j:Nat) (b b':O),(j,b)∈d.cW->(j,b')∈d.cW->b=b'
 z6:∀(c:Nat) (e:xw) (o:Oper),dy[c]? =some e->ops[e.1]? =some o->∃fr,zZ ops ko val e.1 fr/\iy ops o fr=some true
 BC:∀(j:Nat) (o:Oper) (b:O),(j,b)∈d.cW->ops[j]? =some o->rS P ops n0 ko val j o b
 chain:∀(c c':Nat) (e e':xw),c'<c->dy[c]? =some e->dy[c']? =some e'->dY (lZ ops e.1) e'.1=true
 YZ:∀(j:Nat) (o:Oper),j<i->ops[j]? =some o->uU P cf ops n0 h0 ko val d.cW d.reads dy j o
end
mutual
theorem Ua:∀(a b:D),D.beq a b=true->a=b
 | .bool a,b,h=>by cases b<;>simp[D.beq]at h;rw[h]
 | .int k a,b,h=>by cases b<;>simp[D.beq]at h;rw[h.1,h.2]
 | .str a,b,h=>by
   cases b<;>simp only[D.beq]at h<;>first|(cases h;done)|skip
   rw[fR]at h;rw[eq_of_beq h]
 | .dO n a,b,h=>by
   cases b<;>simp only[D.beq]at h<;>first|(cases h;done)|skip
   simp only[aC]at h;rw[aD h.1,uW _ _ h.2]
 | .agg a,b,h=>by
   cases b<;>simp only[D.beq]at h<;>first|(cases h;done)|skip
   rw[uW _ _ h]
theorem uW:∀(a b:ai),D.pI a b=true->a=b
 | [],b,h=>by cases b<;>simp[D.pI]at h;rfl
 |x::xs,b,h=>by
  cases b with
  |nil=>simp[D.pI]at h
  |cons y ys=>
   simp only[D.pI,aC]at h;rw[Ua x y h.1,uW xs ys h.2]
end
mutual
theorem NH:∀(a:D),D.beq a a=true
 | .bool a=>by simp[D.beq]
 | .int k a=>by simp[D.beq]
 | .str a=>by simp only[D.beq];rw[fR];simp
 | .dO n a=>by simp only[D.beq,cM,qt a,Bool.and_self]
 | .agg a=>by simp only[D.beq,qt a]
theorem qt:∀(a:ai),D.pI a a=true
 | []=>rfl
 |x::xs=>by simp only[D.pI,NH x,qt xs,Bool.and_self]
end
mutual
theorem beq_eq:∀(a b:V),V.beq a b=true->a=b
 | .bool a,b,h=>by cases b<;>simp[V.beq]at h;rw[h]
 | .int k a,b,h=>by cases b<;>simp[V.beq]at h;rw[h.1,h.2]
 | .str a,b,h=>by
   cases b<;>simp only[V.beq]at h<;>first|(cases h;done)|skip
   rw[fR]at h;rw[eq_of_beq h]
 | .ptr a,b,h=>by
   cases b<;>simp only[V.beq]at h<;>first|(cases h;done)|skip
   rw[Cv _ _ h]
 | .dj a l c e,b,h=>by
   cases b<;>simp only[V.beq]at h<;>first|(cases h;done)|skip
   simp only[aC]at h;obtain⟨⟨⟨h1,h2⟩,h3⟩,h4⟩:=h;rw[Cv _ _ h1,aD h2,aD h3,aD h4]
 | .map a,b,h=>by
   cases b<;>simp only[V.beq]at h<;>first|(cases h;done)|skip
   rename_i c;cases a<;>cases c<;>simp only[FQ]at h<;>first|(cases h;done)|skip
   . rfl
   . rw[aD h]
 | .fn f a c,b,h=>by
   cases b<;>simp only[V.beq]at h<;>first|(cases h;done)|skip
   rename_i g b d;simp only[aC]at h;obtain⟨⟨h1,h2⟩,h3⟩:=h;rw[th a b h2,th c d h3];cases f<;>cases g<;>simp only[Pt]at h1<;>first|(cases h1;done)|skip
   all_goals rw[aD h1]
 | .kG,b,h=>by cases b<;>simp only[V.beq]at h<;>first|(cases h;done)|rfl
 | .iface t x,b,h=>by
   cases b<;>simp only[V.beq]at h<;>first|(cases h;done)|skip
   rename_i u y;simp only[aC]at h;rw[aD h.1,beq_eq x y h.2]
 | .nilIface,b,h=>by cases b<;>simp only[V.beq]at h<;>first|(cases h;done)|rfl
 | .agg a,b,h=>by
   cases b<;>simp only[V.beq]at h<;>first|(cases h;done)|skip
   rw[th _ _ h]
 | .ew a,b,h=>by
   cases b<;>simp only[V.beq]at h<;>first|(cases h;done)|skip
   rw[th _ _ h]
 | .dO f n a,b,h=>by
   cases b<;>simp only[V.beq]at h<;>first|(cases h;done)|skip
   simp only[aC,beq_iff_eq]at h;rw[h.1,aD h.2.1,uW _ _ h.2.2]
 | .dm a,b,h=>by
   cases b<;>simp only[V.beq]at h<;>first|(cases h;done)|skip
   rw[uW _ _ h]
theorem th:∀(a b:ag),V.pI a b=true->a=b
 | [],b,h=>by cases b<;>simp only[V.pI]at h<;>first|(cases h;done)|rfl
 |x::xs,b,h=>by
  cases b<;>simp only[V.pI]at h<;>first|(cases h;done)|skip
  simp only[aC]at h;rw[beq_eq x _ h.1,th xs _ h.2]
theorem Cv:∀(a b:Option (Nat×Nat)),qQ a b=true->a=b
 |none,b,h=>by cases b<;>simp only[qQ]at h<;>first|(cases h;done)|rfl
 |some (x,y),b,h=>by
  cases b<;>simp only[qQ]at h<;>first|(cases h;done)|skip
  simp only[aC]at h;rw[aD h.1,aD h.2]
end
theorem yM{P:Program}{n0 i:Nat}{o:Oper}{fr:Tr V}{v:V}{x:Tr O}(h:mL P n0 i o fr v x=true):∃y,dz P o fr x (n0+i)=some (.val v y (n0+i)):=by
 unfold mL at h;split at h
 . rename_i u y k e;simp only[aC]at h;have h1:=aD h.1;have h2:=beq_eq _ _ h.2;subst h1;subst h2;exact⟨y,e⟩
 . cases h
theorem NI{n0 i:Nat}{b:O}{l:af}{m:Nat}{x:Tr O}{gX:Nat}(h:dY gX i=false):gO n0 ((i,b)::l) m x gX=gO n0 l m x gX:=by
 simp[gO,h]
theorem EK{P:Program}{n0 i:Nat}{o:Oper}{fr:Tr V}{v:V}{cW:af}{gX:Nat}{h0:Tr O}{c0:Nat}{dy:List xw}:
  ∀k,k<=dy.length->qj P n0 i o fr v cW gX (tg h0 c0 dy k)=true->∀c,c<k->(∀(c':Nat) (e:xw),c<=c'->c'<k->dy[c']? =some e->dY gX e.1=false)->
   ∃y,dz P o fr (gO n0 cW (eD h0 c0 dy c).1 (eD h0 c0 dy c).2.1 gX) (n0+i)=some (.val v y (n0+i))
 |0,_,_,c,hc,_=>by omega
 |k+1,hk,h,c,hc,hn=>by
  have he:dy[k]? =some dy[k]:=ay be;simp only[tg,he,qj]at h;have hb:=hn k dy[k] be be he;rw[hb]at h;simp only[aO,cG,aC]at h;by_cases q:c=k
  . subst q;exact yM h.1
  . exact EK k be h.2 c be fun c' e h1 h2 h3=>hn c' e h1 be h3
theorem Cw{P:Program}{n0:Nat}{cW:af}{m:Nat}{x:Tr O}:∀(l:List (Nat×Nat×Oper×Tr V×V)),pK P n0 cW m x l=true->
  ∀j gX o fr v,(j,gX,o,fr,v)∈l->dY m j=false->∃y,dz P o fr (gO n0 cW m x gX) (n0+j)=some (.val v y (n0+j))
 | [],_,j,gX,o,fr,v,hm,_=>by simp at hm
 |(j',ar4,o',fr',v')::l,h,j,gX,o,fr,v,hm,hb=>by
  simp only[pK,aC,bU]at h;rcases aE.1 hm with q|q
  . cases q;rcases h.1 with h1|h1
    . rw[hb]at h1;cases h1
    . exact yM h1
  . exact Cw l h.2 j gX o fr v q hb
section
variable{P:Program}{cf:fM}{ops:Array Oper}{n0 N:Nat}{h0:Tr O}{ko:Tr V}
section
variable{val iK:Nat->V}{j i:Nat}{fr:Tr V}
theorem zZ.mono(h:zZ ops ko val j fr)(hv:∀k,k<j->iK k=val k):zZ ops ko iK j fr:=
 ⟨fun i o t hi ho hd=>by rw[hv i hi];exact h.new i o t hi ho hd,h.old⟩
theorem zZ.step{fr':Tr V}{o:Oper}{v:V}(hr:mO ops N)(ho:ops[i]? =some o)(h:zZ ops ko val i fr)(hv:∀k,k<i->iK k=val k)(hi:iK i=v)
  (e:iV fr o.dst v=some fr'):zZ ops ko iK (i+1) fr':=by
 have h':=h.mono hv;cases hd:o.dst with
 |none=>
  rw[hd]at e;simp only[iV,an]at e;subst e;refine⟨fun k q t hk hq ht=>?_,fun t ht=>h'.old t fun k q hk hq=>ht k q be hq⟩;by_cases c:k=i
  . subst c;rw[ho]at hq;cases hq;rw[hd]at ht;cases ht
  . exact h'.new k q t be hq ht
 |some d=>
  rw[hd]at e;simp only[iV]at e;split at e
  . rename_i gJ;obtain rfl:=eo e;refine⟨fun k q t hk hq ht=>?_,fun t ht=>?_⟩
    . by_cases c:k=i
      . subst c;rw[ho]at hq;cases hq;rw[hd]at ht;cases ht;rw[Tr.nc _ _ gJ,hi]
      . have fN:t≠d:=by
         intro q';subst q';exact c (hr.one k i q o t hq ho ht hd)
        rw[Tr.ql _ _ gJ fN];exact h'.new k q t be hq ht
    . have fN:t≠d:=by intro q;subst q;exact ht i o be ho hd
      rw[Tr.ql _ _ gJ fN];exact h'.old t fun k q hk hq=>ht k q be hq
  . cases e
theorem Y0{he:vX ops}{j i:Nat}(h:j<=i):dY (lZ ops j) i=false:=by
 cases q:dY (lZ ops j) i with
 |false=>rfl
 |true=>have:=Kf he j i q;omega
end
theorem rS.mono{val iK:Nat->V}{j:Nat}{o:Oper}{b:O}(h:rS P ops n0 ko val j o b)(hv:∀k,k<=j->iK k=val k):rS P ops n0 ko iK j o b:=by
 obtain⟨fr,f1,f2,f3,f4,f6,f5⟩:=h;exact⟨fr,f1.mono fun k hk=>hv k be,f2,f3,f4,f6,fun y=>by rw[hv j (aA _)];exact f5 y⟩
section
variable{val iK:Nat->V}{cW:af}{reads:List (Nat×Nat×Oper×Tr V×V)}{dy:List xw}
theorem uU.quiet{kW:af}{reads xy:List (Nat×Nat×Oper×Tr V×V)}{dy:List xw}{j:Nat}{o:Oper}
  (h:uU P cf ops n0 h0 ko val cW reads dy j o) (hv:∀k,k<=j->iK k=val k) (ha:∀x∈cW,x∈kW) (hr:∀x∈reads,x∈xy)
  (Md:∀m x,gO n0 kW m x (lZ ops j)=gO n0 cW m x (lZ ops j)):uU P cf ops n0 h0 ko iK kW xy dy j o:=by
 obtain⟨fr,f1,f2⟩:=h;refine⟨fr,f1.mono fun k hk=>hv k be,?_⟩;have hj:=hv j (aA _);rw[hj];rcases f2 with q|⟨q1,q2,b,q3,q4,q5⟩|q|⟨q1,q2,q3,q4⟩|⟨q1,q2,c,h,n,q3,q4⟩
 . exact .inl q
 . exact .inr (.inl ⟨q1,q2,b,ha _ q3,q4,q5⟩)
 . exact .inr (.inr (.inl q))
 . refine .inr (.inr (.inr (.inl ⟨q1,q2,hr _ q3,fun c hc h1 h2=>?_⟩)));rw[Md];exact q4 c hc h1 h2
 . refine .inr (.inr (.inr (.inr ⟨q1,q2,c,h,n,q3,?_⟩)));simp only[Md];exact q4
theorem uU.effect{e:xw}{j:Nat}{o:Oper}
  (h:uU P cf ops n0 h0 ko val cW reads dy j o) (hv:∀k,k<=j->iK k=val k) (iD:pK P n0 cW e.2.1 e.2.2.1 reads=true):
  uU P cf ops n0 h0 ko iK cW reads (dy++[e]) j o:=by
 obtain⟨fr,f1,f2⟩:=h;refine⟨fr,f1.mono fun k hk=>hv k be,?_⟩;have hj:=hv j (aA _);rw[hj];rcases f2 with q|q|q|⟨q1,q2,q3,q4⟩|⟨q1,q2,c,h,n,q3,q4⟩
 . exact .inl q
 . exact .inr (.inl q)
 . exact .inr (.inr (.inl q))
 . refine .inr (.inr (.inr (.inl ⟨q1,q2,q3,fun c hc h1 h2=>?_⟩)));simp only[ax,aS,bQ]at hc;by_cases cl:c<=dy.length
   . rw[qq cl];refine q4 c cl (fun c' e' o7 Bq=>h1 c' e' o7 ?_) (fun c' e' o7 Bq=>h2 c' e' o7 ?_)
     . rw[bA (aF.1 Bq).1];exact Bq
     . rw[bA (aF.1 Bq).1];exact Bq
   . have rJ:c=dy.length+1:=by omega
     subst rJ;rw[xx];exact Cw reads iD j _ o fr _ q3 (h2 dy.length e be (by simp))
 . have hc:=(aF.1 q3).1;refine .inr (.inr (.inr (.inr ⟨q1,q2,c,h,n,by rw[bA hc];exact q3,?_⟩)));rw[qq be];exact q4
end
section
variable{val:Nat->V}{dy:List xw}{i:Nat}
theorem NJ{d:Dr}(hr:mO ops N)(f:oG P cf ops n0 h0 ko val dy i d)(hl:zN (lZ ops i) d.last=true):
  ∀(c:Nat) (e:xw),dy[c]? =some e->dY (lZ ops i) e.1=true:=by
 intro c e he;have hc:=(aF.1 he).1;rw[f.last]at hl;have hg:dy.getLast? =some (dy[dy.length-1]'(by omega)):=by
  rw[List.getLast?_eq_getElem?,ay]
 rw[hg]at hl;simp only[bh,zN]at hl;by_cases q:c=dy.length-1
 . subst q;rw[ay be]at he;cases he;exact hl
 . exact EJ hr.yL i _ _ hl (f.chain (dy.length-1) c _ e be (ay be) he)
theorem EL{d d':Dr}{o:Oper}{v:V}{h:Tr O}{n:Nat}(hr:mO ops N)(ho:ops[i]? =some o)(f:oG P cf ops n0 h0 ko val dy i d)
  (hw:iy ops o d.fr=some true) (Cx:qR o.op=true) (hl:zN (lZ ops i) d.last=true) (ha:kH P n0 i (lZ ops i) o d v h n=some d')
  (hm:pD (ops.toList.take (i+1))=d.ef++[lZ ops i])
  (run:(dz P o d.fr (gO n0 d.cW d.cur.1 d.cur.2 (lZ ops i)) d.n=some (.val v h n)) \/
   ∃g args,dz P o d.fr (gO n0 d.cW d.cur.1 d.cur.2 (lZ ops i)) d.n=some (.call g args)/\cf g args (gO n0 d.cW d.cur.1 d.cur.2 (lZ ops i)) d.n=some (.ret v,h,n)):
  ∃iK uX,oG P cf ops n0 h0 ko iK uX (i+1) d':=by
 unfold kH at ha;split at ha
 . rename_i fr hp;split at ha
   . rename_i iD;obtain rfl:=eo ha
     let iK:Nat->V:=fun k=>if k=i then v else val k
     have HY:iK i=v:=by simp[iK]
     have hv:∀k,k<i->iK k=val k:=fun k hk=>by simp[iK,show k≠i by omega]
     refine⟨iK,dy++[(i,lZ ops i,h,n)],?_⟩;have iS:(dy++[(i,lZ ops i,h,n)]).length=dy.length+1:=by simp
     refine⟨hm.symm,f.fr.step hr ho hv HY hp,?_,?_,?_,by simp,?_,fun x hx=>by have:=f.cW x hx;omega,f.one,fun c e q he hq=>?_,fun j q b hb hq=>(f.BC j q b hb hq).mono fun k hk=>hv k (by have:=f.cW _ hb;simp at this;omega),?_,?_⟩
     . rw[iS,xx]
     . rw[iS,xx]
     . rw[iS];simp only[tg];rw[cj be];simp only[Nat.sub_self,bG];rw[qq (aA _),AP _ (aA _),<- f.pJ,f.cur]
     . intro c e he;by_cases q:c<dy.length
       . rw[bA q]at he;obtain⟨h1,h2⟩:=f.uV c e he;exact⟨be,h2⟩
       . have hc:=(aF.1 he).1;simp at hc;have:c=dy.length:=by omega
         subst this;simp at he;subst he;exact⟨by simp,o,ho,Cx,rfl⟩
     . by_cases q2:c<dy.length
       . rw[bA q2]at he;obtain⟨h1,_⟩:=f.uV c e he;obtain⟨xz,g1,g2⟩:=f.z6 c e q he hq;exact⟨xz,g1.mono fun k hk=>hv k be,g2⟩
       . have hc:=(aF.1 he).1;simp at hc;have:c=dy.length:=by omega
         subst this;simp at he;subst he;simp only at hq;rw[ho]at hq;cases hq;exact⟨d.fr,f.fr.mono hv,hw⟩
     . intro c c' e e' Ub he Bq;have hc:=(aF.1 he).1;simp at hc;have o7:c'<dy.length:=by omega
       rw[bA o7]at Bq;by_cases q:c<dy.length
       . rw[bA q]at he;exact f.chain c c' e e' Ub he Bq
       . have:c=dy.length:=by omega
         subst this;simp at he;subst he;exact NJ hr f hl c' e' Bq
     . intro j q hj hq;by_cases c:j=i
       . subst c;rw[ho]at hq;cases hq;refine⟨d.fr,f.fr.mono hv,.inr (.inr (.inr (.inr ⟨hw,Cx,dy.length,h,n,by simp,?_⟩)))⟩;rw[qq (aA _),HY];have adq:=f.cur;have hn:=f.n;have e1:d.cur.1=(eD h0 (n0+ops.size) dy dy.length).1:=by rw[adq]
         have e2:d.cur.2=(eD h0 (n0+ops.size) dy dy.length).2.1:=by rw[adq]
         rw[e1,e2,hn]at run;exact run
       . exact(f.YZ j q be hq).effect (fun k hk=>hv k be) iD
   . cases ha
 . cases ha
theorem Kh{d d':Dr}{o:Oper}(hr:mO ops N)(ho:ops[i]? =some o)(f:oG P cf ops n0 h0 ko val dy i d)
  (e:uG P cf ops n0 i o d=some (.inl d')):∃iK uX,oG P cf ops n0 h0 ko iK uX (i+1) d':=by
 have hi:i<ops.size:=(aQ.1 ho).1;have Br:eM d.ef o.after.toList=lZ ops i:=by rw[f.ef];unfold lZ;rw[ho]
 have hm:pD (ops.toList.take (i+1))=d.ef++[lZ ops i]:=by
  rw[EI (by rw[bL];exact ho),Cs,<- f.ef,Br]
 unfold uG at e;simp only[Br]at e;have vY:∀(v:V) (fr:Tr V) (kW:af) (xy:List (Nat×Nat×Oper×Tr V×V)),iV d.fr o.dst v=some fr->(∀x∈d.cW,x∈kW)->(∀x∈d.reads,x∈xy)->
   (∀j m x,j<=i->gO n0 kW m x (lZ ops j)=gO n0 d.cW m x (lZ ops j))->(∀x∈kW,x.1<i+1)->(∀j b b',(j,b)∈kW->(j,b')∈kW->b=b')->
   (∀iK,(∀k,k<i->iK k=val k)->iK i=v->∀b,(i,b)∈kW->rS P ops n0 ko iK i o b)->(∀x∈kW,x.1≠i->x∈d.cW)->
   (∀iK,(∀k,k<i->iK k=val k)->iK i=v->uU P cf ops n0 h0 ko iK kW xy dy i o)->
   ∃iK uX,oG P cf ops n0 h0 ko iK uX (i+1) { d with fr:=fr,ef:=d.ef++[lZ ops i],cW:=kW,reads:=xy }:=by
  intro v fr kW xy hp ha Y1 Md hai J0 hal ajf o6
  let iK:Nat->V:=fun k=>if k=i then v else val k
  have HY:iK i=v:=by simp[iK]
  have hv:∀k,k<i->iK k=val k:=fun k hk=>by simp[iK,show k≠i by omega]
  refine⟨iK,dy,⟨hm.symm,f.fr.step hr ho hv HY hp,f.cur,f.n,f.pJ,f.last,fun c e he=>?_,hai,J0,fun c e q he hq=>?_,fun j q b hb hq=>?_,f.chain,fun j q hj hq=>?_⟩⟩
  . obtain⟨h1,h2⟩:=f.uV c e he;exact⟨be,h2⟩
  . obtain⟨h1,_⟩:=f.uV c e he;obtain⟨xz,g1,g2⟩:=f.z6 c e q he hq;exact⟨xz,g1.mono fun k hk=>hv k be,g2⟩
  . by_cases c:j=i
    . subst c;rw[ho]at hq;cases hq;exact hal iK hv HY b hb
    . have Gb:=ajf _ hb c;exact(f.BC j q b Gb hq).mono fun k hk=>hv k (by have:=f.cW _ Gb;simp at this;omega)
  . by_cases c:j=i
    . subst c;rw[ho]at hq;cases hq;exact o6 iK hv HY
    . exact(f.YZ j q be hq).quiet (fun k hk=>hv k be) ha Y1 fun m x=>Md j m x be
 have e1:d.cur.1=(eD h0 (n0+ops.size) dy dy.length).1:=by rw[f.cur]
 have e2:d.cur.2=(eD h0 (n0+ops.size) dy dy.length).2.1:=by rw[f.cur]
 split at e
 . rename_i hw;split at e
   . rename_i fr hp;simp only[an,Sum.inl.injEq]at e;subst e;exact vY (.ew []) fr d.cW d.reads hp (fun _ h=>h) (fun _ h=>h) (fun _ _ _ _=>rfl) (fun x hx=>by have:=f.cW x hx;omega) f.one (fun _ _ _ b hb=>by have:=f.cW _ hb;simp at this) (fun _ hx _=>hx)
      fun iK hv HY=>⟨d.fr,f.fr.mono hv,.inl ⟨hw,HY⟩⟩
   . cases e
 . rename_i hw;split at e
   . rename_i Cx;split at e
     . rename_i hl;split at e
       . rename_i v h n hs;split at e
         . rename_i s' ha;simp only[an,Sum.inl.injEq]at e;subst e;exact EL hr ho f hw Cx hl ha hm (.inl hs)
         . cases e
       . rename_i g args hs;split at e
         . rename_i v h n hc;split at e
           . rename_i s' ha;simp only[an,Sum.inl.injEq]at e;subst e;exact EL hr ho f hw Cx hl ha hm (.inr ⟨g,args,hs,hc⟩)
           . cases e
         . split at e
           . cases e
           . cases e
         . cases e
       . cases e
     . cases e
   . rename_i Cx;have HZ:qR o.op=false:=by simpa using Cx
     split at e
     . rename_i v h k hs;split at e
       . rename_i fr hp;have hq:=quiet HZ hs;split at e
         . rename_i hk;have uo:=aD hk;subst uo;split at e
           . rename_i adr;simp only[an,Sum.inl.injEq]at e;subst e;obtain⟨u,h1,h2⟩:=HV adr hs;cases h1;exact vY v fr d.cW d.reads hp (fun _ h=>h) (fun _ h=>h) (fun _ _ _ _=>rfl) (fun x hx=>by have:=f.cW x hx;omega) f.one (fun _ _ _ b hb=>by have:=f.cW _ hb;simp at this) (fun _ hx _=>hx)
              fun iK hv HY=>⟨d.fr,f.fr.mono hv,.inr (.inr (.inl ⟨hw,HZ,fun y=>by rw[HY];exact h2 y _⟩))⟩
           . split at e
             . rename_i pJ;simp only[an,Sum.inl.injEq]at e;subst e;refine vY v fr d.cW ((i,lZ ops i,o,d.fr,v)::d.reads) hp (fun _ h=>h) (fun x hx=>by simp[hx]) (fun _ _ _ _=>rfl) (fun x hx=>by have:=f.cW x hx;omega) f.one (fun _ _ _ b hb=>by have:=f.cW _ hb;simp at this) (fun _ hx _=>hx)
                fun iK hv HY=>⟨d.fr,f.fr.mono hv,.inr (.inr (.inr (.inl ⟨hw,HZ,by simp[HY],fun c hc h1 _=>?_⟩)))⟩
               rw[HY];by_cases q:c=dy.length
               . subst q;rw[<- e1,<- e2];exact⟨h,hs⟩
               . rw[f.pJ]at pJ;exact EK dy.length (aA _) pJ c be fun c' e' q1 _ q3=>h1 c' e' q1 q3
             . cases e
         . rename_i hk;split at e
           . rename_i b hb;split at e
             case isFalse=>cases e
             rename_i hwr;simp only[an,Sum.inl.injEq]at e;subst e;rcases hq with⟨u,h1,_⟩|⟨u,b',h1,h2,h3⟩
             . cases h1;exact absurd (cM _) hk
             . cases h2;rw[Tr.nc _ _ h1]at hb;cases hb;refine vY v fr ((i,b)::d.cW) d.reads hp (fun x hx=>by simp[hx]) (fun _ h=>h) (fun j m x hj=>NI (Y0 (he:=hr.yL) hj)) (fun x hx=>?_) (fun j c c' hc o7=>?_) (fun iK hv HY c hc=>?_) (fun x hx fN=>?_)
                fun iK hv HY=>⟨d.fr,f.fr.mono hv,.inr (.inl ⟨hw,HZ,b,by simp,h1,fun y=>by rw[HY];exact h3 y⟩)⟩
               . rcases aE.1 hx with rfl|hx
                 . simp
                 . have:=f.cW x hx;omega
               . rcases aE.1 hc with q|q<;>rcases aE.1 o7 with q'|q'
                 . cases q;cases q';rfl
                 . cases q;have:=f.cW _ q';simp at this
                 . cases q';have:=f.cW _ q;simp at this
                 . exact f.one j c c' q q'
               . rcases aE.1 hc with q|q
                 . cases q;exact⟨d.fr,f.fr.mono hv,hw,HZ,h1,hwr,fun y=>by rw[HY];exact h3 y⟩
                 . have:=f.cW _ q;simp at this
               . rcases aE.1 hx with q|q
                 . cases q;exact absurd rfl fN
                 . exact q
           . cases e
       . cases e
     . cases e
 . cases e
end
theorem Ki(fr:Tr V)(h:Tr O):oG P cf ops n0 h fr (fun _=>.kG) [] 0 { fr:=fr,ef:=[],cur:=(0,h),pJ:=[],last:=none,cW:=[],reads:=[],n:=n0+ops.size }:=by
 refine⟨by simp[pD],⟨fun i o t hi=>by omega,fun t _=>rfl⟩,rfl,rfl,rfl,rfl,fun c e he=>by simp at he,fun x hx=>by simp at hx,fun j b b' hb=>by simp at hb,fun c e o he=>by simp at he,fun j o b hb=>by simp at hb,fun c c' e e' _ he=>by simp at he,fun j o hj=>by omega⟩
theorem EM(hr:mO ops N):∀(l:List Oper) (i:Nat) (d:Dr) (val:Nat->V) (dy:List xw) (r:Dr ⊕ (Tr V×V×Tr O×Nat)),l=ops.toList.drop i->oG P cf ops n0 h0 ko val dy i d->
  qT P cf ops n0 l i d=some r->
  match r with
  | .inl d'=>∃iK uX,oG P cf ops n0 h0 ko iK uX (max i ops.size) d'
  | .inr x=>∃j o d' iK uX,ops[j]? =some o/\oG P cf ops n0 h0 ko iK uX j d'/\uG P cf ops n0 j o d'=some (.inr x)
 | [],i,d,val,dy,r,hl,f,e=>by
   simp only[qT,an]at e;subst e;have hi:ops.size<=i:=by
    have:=aM List.length hl;simp at this;omega
   rw[Nat.max_eq_left hi];exact⟨val,dy,f⟩
 |o::l,i,d,val,dy,r,hl,f,e=>by
  have hi:i<ops.size:=by
   have:=aM List.length hl;simp at this;omega
  have ho:ops[i]? =some o:=by
   have:=aM (fun x=>x[0]?) hl;simp at this;exact this.symm
  have hl':l=ops.toList.drop (i+1):=by
   have:=aM List.tail hl;simpa using this
  simp only[qT]at e;split at e
  . rename_i s' hs;obtain⟨iK,uX,f'⟩:=Kh hr ho f hs;have:=EM hr l (i+1) s' iK uX r hl' f' e;cases r with
    |inl d'=>rw[show max (i+1) ops.size=max i ops.size by omega]at this;exact this
    |inr x=>exact this
  . rename_i x hx;cases r with
    |inl d'=>exact absurd e (hx d')
    |inr y=>exact⟨i,o,d,val,dy,ho,f,e⟩
end
theorem Good.ext{E:Env}{h h':Tr O}{w:World}(g:Good E h w)(e:∀k,h'.get k=h.get k):Good E h' w:=g.sub fun m o q=>by rw[<- e];exact q
theorem ir.ext{E E':Env}{h h' h2:Tr O}{w w':World}(u:ir E h w E' h' w')(e:∀k,h2.get k=h'.get k):ir E h w E' h2 w':=
 ⟨u.le,u.good.ext e,u.size,u.tape,u.os,u.output,u.keep,fun m b s hm q hb=>let⟨m0,s0,a1,a2,a3⟩:=u.sR m b s (by rw[<- e];exact hm) q hb;⟨m0,s0,a1,a2,fun c=>a3 (Pz (e m) c)⟩,u.DV⟩
theorem ir.frame{E E':Env}{h x y z:Tr O}{w w':World}(g:Good E h w)(hx:Sub x h)(u:ir E x w E' y w')
  (hz:∀k,z.get k=match y.get k with|some o=>some o|none=>if x.get k=none then h.get k else none):ir E h w E' z w':=by
 have rest:∀k o,h.get k=some o->x.get k=none->∃b s,E.ι k=some (b,s)/\E'.ι k=some (b,s)/\E'.β b=E.β b/\b<w.heap.size/\w'.heap[b]? =w.heap[b]?/\(∀m s',eC y m->E'.ι m≠some (b,s'))/\(o.wr=true->∀m s',y.get m≠none->E'.ι m≠some (b,s'))/\lU E w b s o:=by
  intro k o hk hxk;obtain⟨b,s,h1,h2⟩:=g.rel k o hk;have hb:=g.mW k b s h1;have fN:∀m,x.get m≠none->m≠k:=by intro m hm e;subst e;exact hm hxk
  have tV:∀m s',eC x m->E.ι m≠some (b,s'):=by
   intro m s' hm q;exact g.inj m k b s' s (fN m hm.live) (gw hx hm) (by rw[hk];simp) q h1
  have aji:o.wr=true->∀m s',x.get m≠none->E.ι m≠some (b,s'):=by
   intro ho m s' hm q;exact g.inj k m b s s' (fun e=>fN m hm e.symm) ⟨o,hk,ho⟩ (ng hx hm) h1 q
  refine⟨b,s,h1,(u.le.nm k b s h1).1,(u.le.nm k b s h1).2,hb,u.keep b hb tV,?_,?_,h2⟩
  . intro m s' hm q;obtain⟨m0,s0,a1,a2,a3⟩:=u.sR m b s' hm.live q hb;exact tV m0 s0 (a3 hm) a2
  . intro ho m s' hm q;obtain⟨m0,s0,a1,a2,a3⟩:=u.sR m b s' hm q hb;exact aji ho m0 s0 a1 a2
 have zc:∀k o,z.get k=some o->y.get k=some o\/(y.get k=none/\x.get k=none/\h.get k=some o):=by
  intro k o q;rw[hz]at q;split at q
  . rename_i o' hy;cases q;exact .inl hy
  . rename_i hy;split at q
    . rename_i Pc;exact .inr ⟨hy,Pc,q⟩
    . cases q
 have old:∀k o b s,h.get k=some o->o.wr=true->x.get k=none->E.ι k=some (b,s)->∀c,E'.φ b≠some c:=by
  intro k o b s hk ho hxk e c hc;rcases u.DV b c hc with q|q|⟨m,s',q1,q2⟩
  . exact(g.gP b c q).2 k s ⟨o,hk,ho⟩ e
  . have:=g.mW k b s e;omega
  . exact g.inj m k b s' s (fun q=>by subst q;exact q1.live hxk) (gw hx q1) (by rw[hk];simp) q2 e
 refine⟨u.le,⟨?_,?_,u.good.mW,u.good.jj,fun b c hc=>⟨(u.good.gP b c hc).1,fun m s hm e=>?_⟩⟩,u.size,u.tape,u.os,u.output,?_,?_,?_⟩
 case refine_3=>
  obtain⟨o,hm,ho⟩:=hm;rcases zc m o hm with ym|⟨ym,Pc,hh⟩
  . exact(u.good.gP b c hc).2 m s ⟨o,ym,ho⟩ e
  . obtain⟨b',t,h1,h2,_⟩:=rest m o hh Pc;rw[h2]at e;cases e;exact old m o b s hh ho Pc h1 c hc
 case refine_6=>
  intro b c hc;rcases u.DV b c hc with q|q|⟨m,s,q1,q2⟩
  . exact .inl q
  . exact .inr (.inl q)
  . exact .inr (.inr ⟨m,s,gw hx q1,q2⟩)
 . intro m o hm;rcases zc m o hm with hy|⟨hy,Pc,hm⟩
   . exact u.good.rel m o hy
   . obtain⟨b,s,h1,h2,h3,h4,h5,h6,h6',h7⟩:=rest m o hm Pc;exact⟨b,s,h2,ij u.le h3 h5 h7⟩
 . intro m m' b s s' fN hm sU e e';obtain⟨o,hm,ho⟩:=hm;obtain⟨o',sU⟩:=bf.1 sU;rcases zc m o hm with ym|⟨ym,Pc,hh⟩
   . rcases zc m' o' sU with ym'|⟨ym',Y2,hh'⟩
     . exact u.good.inj m m' b s s' fN ⟨o,ym,ho⟩ (by rw[ym'];simp) e e'
     . obtain⟨b',t,h1,h2,h3,h4,h5,h6,h6',h7⟩:=rest m' o' hh' Y2;rw[h2]at e';cases e';exact h6 m s ⟨o,ym,ho⟩ e
   . obtain⟨b',t,h1,h2,h3,h4,h5,h6,h6',h7⟩:=rest m o hh Pc;rw[h2]at e;cases e;rcases zc m' o' sU with ym'|⟨ym',Y2,hh'⟩
     . exact h6' ho m' s' (by rw[ym'];simp) e'
     . obtain⟨b2,t2,k1,k2,_⟩:=rest m' o' hh' Y2;rw[k2]at e';cases e';exact g.inj m m' _ _ _ fN ⟨o,hh,ho⟩ (by rw[hh'];simp) h1 k1
 . intro b hb hn;exact u.keep b hb fun m s hm=>hn m s (gw hx hm)
 . intro m b s hm e hb;obtain⟨o,hm⟩:=bf.1 hm;have hw:eC z m->o.wr=true:=by rintro⟨o2,q1,q2⟩;rw[hm]at q1;cases q1;exact q2
   rcases zc m o hm with ym|⟨ym,Pc,hh⟩
   . obtain⟨m0,s0,a1,a2,a3⟩:=u.sR m b s (by rw[ym];simp) e hb;exact⟨m0,s0,ng hx a1,a2,fun q=>gw hx (a3 ⟨o,ym,hw q⟩)⟩
   . obtain⟨b',t,h1,h2,_⟩:=rest m o hh Pc;rw[h2]at e;cases e;exact⟨m,_,by rw[hh];simp,h1,fun q=>⟨o,hh,hw q⟩⟩
theorem Cy{n0:Nat}{m:Nat}{x:Tr O}{gX k:Nat}:∀(l:af),(∀y∈l,n0+y.1<fL)->
  (gO n0 l m x gX).get k=match l.find? (fun y=>Nat.beq (n0+y.1) k&&dY gX y.1&& !dY m y.1)with|some y=>some y.2|none=>x.get k
 | [],_=>rfl
 |(i,o)::l,ht=>by
  have ih:=Cy (k:=k) (m:=m) (x:=x) (gX:=gX) l fun y hy=>ht y (by simp[hy]);simp only[gO];by_cases hb:(dY gX i&& !dY m i)=true
  . rw[aG hb,Tr.eP _ _ _ (ht (i,o) (by simp))];by_cases q:k=n0+i
    . subst q;rw[aG rfl,List.find?_cons_of_pos (by simp only[cM,Bool.true_and];exact hb)]
    . rw[aI q,ih,List.find?_cons_of_neg];have:Nat.beq (n0+i) k=false:=by
       cases hh:Nat.beq (n0+i) k with
       |false=>rfl
       |true=>exact absurd (aD hh).symm q
      simp[this]
  . rw[aI hb,ih,List.find?_cons_of_neg];intro q;simp only[Bool.and_assoc]at q;rw[aC]at q;exact hb q.2
section
variable{n0 m:Nat}{x:Tr O}
theorem jK{gX i:Nat}{b:O}{l:af}(ht:∀y∈l,n0+y.1<fL)(one:∀(j:Nat) (b b':O),(j,b)∈l->(j,b')∈l->b=b')(hi:(i,b)∈l)
  (ha:dY gX i=true) (hm:dY m i=false):(gO n0 l m x gX).get (n0+i)=some b:=by
 rw[Cy l ht];cases hf:l.find? (fun y=>Nat.beq (n0+y.1) (n0+i)&&dY gX y.1&& !dY m y.1)with
 |none=>
  have:=List.find?_eq_none.1 hf (i,b) hi;simp[cM,ha,hm]at this
 |some y=>
  have h1:=List.mem_of_find?_eq_some hf;have h2:=List.find?_some hf;simp only[aC]at h2;have h3:=aD h2.1.1;have h4:y.1=i:=by omega
  obtain⟨y1,y2⟩:=y;simp only at h4;subst h4;simp only[one y1 y2 b h1 hi]
theorem qu{gX k:Nat}{l:af}(ht:∀y∈l,n0+y.1<fL)(h:∀i b,(i,b)∈l->dY gX i=true->dY m i=false->k≠n0+i):(gO n0 l m x gX).get k=x.get k:=by
 rw[Cy l ht];cases hf:l.find? (fun y=>Nat.beq (n0+y.1) k&&dY gX y.1&& !dY m y.1)with
 |none=>rfl
 |some y=>
  have h1:=List.mem_of_find?_eq_some hf;have h2:=List.find?_some hf;simp only[aC,Bool.not_eq_true']at h2;exact absurd (aD h2.1.1).symm (h y.1 y.2 h1 h2.1.2 h2.2)
theorem jm{gX:Nat}{l:af}(ht:∀y∈l,n0+y.1<fL)(one:∀(j:Nat) (b b':O),(j,b)∈l->(j,b')∈l->b=b')(k:Nat):
  (∃i b,(i,b)∈l/\dY gX i=true/\dY m i=false/\k=n0+i/\(gO n0 l m x gX).get k=some b) \/
  ((∀i b,(i,b)∈l->dY gX i=true->dY m i=false->k≠n0+i)/\(gO n0 l m x gX).get k=x.get k):=by
 by_cases h:∃i b,(i,b)∈l/\dY gX i=true/\dY m i=false/\k=n0+i
 . obtain⟨i,b,h1,h2,h3,rfl⟩:=h;exact .inl ⟨i,b,h1,h2,h3,rfl,jK ht one h1 h2 h3⟩
 . have h':∀i b,(i,b)∈l->dY gX i=true->dY m i=false->k≠n0+i:=fun i b h1 h2 h3 q=>h ⟨i,b,h1,h2,h3,q⟩;exact .inr ⟨h',qu ht h'⟩
end
def NK(E:Env):X->Exit->Prop
 | .normal,.normal=>True
 | .exit i,.exit j=>i=j
 | .ret,.ret=>True
 | .panic v,.panic chain=>∃v',dD E v v'/\chain=[{ v:=v',recovered:=false }]
 |_,_=>False
section
variable{P:Program}{cf:fM}{ops:Array Oper}{n0 N lz:Nat}{h0:Tr O}{ko:Tr V}{val:Nat->V}{dy:List xw}{d:Dr}{E0:Env}{w0:World}{Bs:List Deferred}
structure Inv(ops:Array Oper)(n0 N lz:Nat)(h0:Tr O)(ko:Tr V)(val:Nat->V)(dy:List xw)(cW:af)(E0:Env)(w0:World)(Bs:List Deferred)
  (S:Nat->Bool) (ms J:Nat) (E:Env) (a:Act) (w:World):Prop where
 bits:∀i,dY ms i=S i
 Uc:∀i,S i=true->i<lz
 closed:∀(j:Nat) (o:Oper),S j=true->ops[j]? =some o->∀e∈o.after,Region.binds .any e=true->S e.on=true
 Gc:∀(c:Nat) (e:xw),dy[c]? =some e->(S e.1=true↔c<J)
 Jle:J<=dy.length
 f1:∀(j:Nat) (o:Oper) (t:Nat),S j=true->ops[j]? =some o->o.dst=some t->∃v',a.tmps[t]? =some v'/\dD E (val j) v'
 f2:∀(t:Nat) (v:V),ko.get t=some v->(∀(j:Nat) (o:Oper),S j=true->ops[j]? =some o->o.dst≠some t)->∃v',a.tmps[t]? =some v'/\dD E v v'
 qp:ir E0 h0 w0 E (gO n0 cW (eD h0 (n0+ops.size) dy J).1 (eD h0 (n0+ops.size) dy J).2.1 ms) w
 old:∀k,k<n0->E.ι k=E0.ι k
 oe:∀k p,E.ι k=some p->k<n0\/(∃i b,(i,b)∈cW/\S i=true/\k=n0+i)\/(n0+ops.size<=k/\k<(eD h0 (n0+ops.size) dy J).2.2)
 free:∀i,i<ops.size->dY (eD h0 (n0+ops.size) dy J).1 i=false->(eD h0 (n0+ops.size) dy J).2.1.get (n0+i)=none
 yN:n0+ops.size<=(eD h0 (n0+ops.size) dy J).2.2
 size:a.tmps.size=N
 gz:a.defers=Bs
theorem Inv.gX(hr:mO ops N){cW:af}{S:Nat->Bool}{ms J:Nat}{E:Env}{a:Act}{w:World}(I:Inv ops n0 N lz h0 ko val dy cW E0 w0 Bs S ms J E a w){j k:Nat}(hj:S j=true)(h:dY (lZ ops j) k=true):S k=true:=
 Cu hr.yL (S:=fun i=>S i=true) (fun j o hs ho e he hb=>I.closed j o hs ho e he hb) j k hj h
theorem vZ(hr:mO ops N){S:Nat->Bool}(hS:∀(j:Nat) (o:Oper),S j=true->ops[j]? =some o->∀e∈o.after,Region.binds .any e=true->S e.on=true){j k:Nat}{o:Oper}(ho:ops[j]? =some o)
  (hd:∀e∈o.after,Region.binds .any e=true->S e.on=true) (h:dY (lZ ops j) k=true):S k=true:=by
 obtain⟨e,h1,h2,h3⟩:=(yK hr.yL ho).1 h;rcases h3 with rfl|h3
 . exact hd e h1 h2
 . exact Cu hr.yL (S:=fun i=>S i=true) hS e.on k (hd e h1 h2) h3
theorem Inv.adu(hr:mO ops N)(f:oG P cf ops n0 h0 ko val dy lz d){S:Nat->Bool}{ms J:Nat}{E:Env}{a:Act}{w:World}
  (I:Inv ops n0 N lz h0 ko val dy d.cW E0 w0 Bs S ms J E a w) {i:Nat} (h:dY (eD h0 (n0+ops.size) dy J).1 i=true):S i=true:=by
 cases J with
 |zero=>simp[eD,kr]at h
 |succ c=>
  have hc:c<dy.length:=by have:=I.Jle;omega
  have he:dy[c]? =some dy[c]:=ay hc;simp only[eD,he]at h;obtain⟨_,o,_,_,h3⟩:=f.uV c _ he;rw[h3]at h;exact I.gX hr ((I.Gc c _ he).2 be) h
theorem Inv.use(hr:mO ops N){cW:af}{S:Nat->Bool}{ms J:Nat}{E:Env}{a:Act}{w:World}(I:Inv ops n0 N lz h0 ko val dy cW E0 w0 Bs S ms J E a w)
  {j:Nat} {o:Oper} (ho:ops[j]? =some o) (hj:S j=false) (hd:∀e∈o.after,Region.binds .any e=true->S e.on=true) {fr:Tr V} (hf:zZ ops ko val j fr) {t:Nat} (ht:t∈uH ops o) {v:V} (hv:fr.get t=some v):
  ∃v',a.tmps[t]? =some v'/\dD E v v':=by
 by_cases h:∃i q,i<j/\ops[i]? =some q/\q.dst=some t
 . obtain⟨i,q,h1,h2,h3⟩:=h;have hu:=hr.use i j q o t h2 ho be h3 ht;rw[aG h1]at hu;have hi:=vZ hr I.closed ho hd hu;have:=hf.new i q t h1 h2 h3;rw[this]at hv;cases hv;exact I.f1 i q t hi h2 h3
 . have oD:=hf.old t fun i q hi hq hd=>h ⟨i,q,hi,hq,hd⟩;rw[oD]at hv;refine I.f2 t v hv fun i q hi hq TF=>?_;have fN:i≠j:=by intro e;subst e;rw[hj]at hi;cases hi
   have hu:=hr.use i j q o t hq ho fN TF ht;split at hu
   . rename_i fF;exact h ⟨i,q,fF,hq,TF⟩
   . have:=I.gX hr hi hu;rw[hj]at this;cases this
theorem Inv.uF(hr:mO ops N){cW:af}{S:Nat->Bool}{ms J:Nat}{E:Env}{a:Act}{w:World}(I:Inv ops n0 N lz h0 ko val dy cW E0 w0 Bs S ms J E a w)
  {j:Nat} {o:Oper} (ho:ops[j]? =some o) (hj:S j=false) (hd:∀e∈o.after,Region.binds .any e=true->S e.on=true) {fr:Tr V} (hf:zZ ops ko val j fr):∀x∈o.op.operands,mH E fr a.eval x:=by
 intro x hx v hv;cases x with
 |tmp t=>
  have ht:t∈uH ops o:=by
   unfold uH;refine cJ _ (List.mem_filterMap.2 ⟨.tmp t,by simpa using hx,rfl⟩)
  obtain⟨v',h1,h2⟩:=I.use hr ho hj hd hf ht hv;simp only[Act.eval,b7,h1];exact h2
 |const c=>exact zQ hv
 |func f=>simp only[iI,an]at hv;subst hv;exact⟨_,[],[],rfl,rfl,rfl,rfl⟩
 |global g=>exact Hy I.qp.good.jj hv
theorem Inv.wanted(hr:mO ops N){cW:af}{S:Nat->Bool}{ms J:Nat}{E:Env}{a:Act}{w:World}(I:Inv ops n0 N lz h0 ko val dy cW E0 w0 Bs S ms J E a w)
  {j:Nat} {o:Oper} (ho:ops[j]? =some o) (hj:S j=false) (hd:∀e∈o.after,Region.binds .any e=true->S e.on=true) {fr:Tr V} (hf:zZ ops ko val j fr) {b:Bool} (e:iy ops o fr=some b):
  Region.wanted o (yielded ops a.tmps)=b:=by
 refine xq (E:=E) (fun g JP q t hg hq hdq v hv=>?_) e;have ht:t∈uH ops o:=by
  unfold uH;refine bZ _ ?_;simp only[hg,hq,hdq];simp
 exact I.use hr ho hj hd hf ht hv
theorem Inv.frame(hr:mO ops N){cW:af}{S:Nat->Bool}{ms J:Nat}{E E':Env}{a:Act}{w:World}(I:Inv ops n0 N lz h0 ko val dy cW E0 w0 Bs S ms J E a w)
  {j:Nat} {o:Oper} (ho:ops[j]? =some o) (kE:E.le E') {v':Value} (hv:dD E' (val j) v'):
  (∀(k:Nat) (q:Oper) (t:Nat),(S k||decide (k=j))=true->ops[k]? =some q->q.dst=some t->∃v2,(a.put o.dst v').tmps[t]? =some v2/\dD E' (val k) v2)/\
  (∀(t:Nat) (v:V),ko.get t=some v->(∀(k:Nat) (q:Oper),(S k||decide (k=j))=true->ops[k]? =some q->q.dst≠some t)->∃v2,(a.put o.dst v').tmps[t]? =some v2/\dD E' v v2):=by
 have uh:nl a.tmps.size o.dst:=by rw[I.size];exact hr.dst j o ho
 refine⟨fun k q t hk hq ht=>?_,fun t v Y3 ht=>?_⟩
 . by_cases c:k=j
   . subst c;rw[ho]at hq;cases hq;have:=uh t ht;exact⟨v',by simp[Act.put,ht,this],hv⟩
   . have uo:S k=true:=by simpa[c]using hk
     obtain⟨v2,h1,h2⟩:=I.f1 k q t uo hq ht;refine⟨v2,?_,ji kE _ _ h2⟩;cases hd:o.dst with
     |none=>exact h1
     |some u=>
      have fN:u≠t:=by intro e;subst e;exact c (hr.one k j q o u hq ho ht hd)
      simp[Act.put,fN,h1]
 . obtain⟨v2,h1,h2⟩:=I.f2 t v Y3 fun k q hk hq=>ht k q (by simp[hk]) hq;refine⟨v2,?_,ji kE _ _ h2⟩;cases hd:o.dst with
   |none=>exact h1
   |some u=>
    have fN:u≠t:=by intro e;subst e;exact ht j o (by simp) ho hd
    simp[Act.put,fN,h1]
end
end Go.Eng
