/- The engine, part I: conversions, make, append. No conditions: lemmas alone. -/
import Derived.Test.YtfihojpgobmmdaaGreatDoorJointW00
import Derived.Lib.UnsafeStr
import Derived.RangeFuncSeq
import Derived.TacticsIn
set_option linter.unusedVariables false
set_option linter.unusedSimpArgs false
set_option linter.unusedSectionVars false
namespace Go.Eng
open Go
section
variable{P:Program}{E:Env}{h:Tr O}{n:Nat}{w:World}
theorem Ci(s:aa):dI E (B5 s) (s.map fun b=>Value.int .u8 b.toNat):=by
 refine jz (by simp[B5]) fun i v q=>?_;simp only[B5,br,Option.map_eq_some_iff]at q ⊢;obtain⟨b,q1,rfl⟩:=q;exact⟨_,⟨b,q1,rfl⟩,rfl⟩
theorem Cj(s:aa):(dX s).map (V.int .u8)=B5 s:=by simp[dX,B5]
theorem Ck{ks:List Int}{o cO:Nat}{vs:List Value}(r:dI E (((ks.map (V.int .u8)).drop o).take cO) vs):vs=((ks.drop o).take cO).map (Value.int .u8):=by
 rw[<- List.map_drop,<- cL]at r;revert r;generalize (ks.drop o).take cO=l;intro r
 induction l generalizing vs with
 |nil=>exact r
 |cons x l ih=>
  obtain⟨y,ys,r0,rs,rfl⟩:=r;simp only[dF]at r0;subst r0;rw[ih rs];rfl
theorem Kg{m b s:Nat}{t:aa}(g:Good E h w)(hi:E.ι m=some (b,s))(e:uy (h.get m)=some t):∃c el fz xs,w.heap[b]? =some (.cells c el fz)/\s=0/\eN xs=t/\∀(j:Nat) (x:Int),xs[j]? =some x->c[j]? =some (.int .u8 x):=by
 unfold uy at e;split at e
 . rename_i el AL t' hm;cases e;obtain⟨b',s',zM,c,fz,xs,h1,h2,_,_,h3,h4⟩:=g.rel m _ hm;rw[hi]at zM;cases zM;exact⟨c,el,fz,xs,h1,h2,h3,h4⟩
 . cases e
theorem NP{m b s:Nat}{ks:List Int}(g:Good E h w)(hi:E.ι m=some (b,s))(e:AM (h.get m)=some ks):∃c el fz,w.heap[b]? =some (.cells c el fz)/\l9 E s (ks.map (.int .u8)) c:=by
 unfold AM at e;split at e
 . rename_i Xq hm;cases e;obtain⟨b',s',zM,c,el,fz,h1,_,_,h2⟩:=g.rel m _ hm;rw[hi]at zM;cases zM;exact⟨c,el,fz,h1,h2⟩
 . rename_i Xq hm;cases e;obtain⟨b',s',zM,c,el,fz,h1,_,h2⟩:=g.rel m _ hm;rw[hi]at zM;cases zM;exact⟨c,el,fz,h1,mN.2 h2⟩
 . cases e
theorem Cl:∀(bs:ag) (s:aa) (bs':List Value),qO bs=some s->dI E bs bs'->
  ∃ns:List Int,bs'=ns.map (Value.int .u8)/\s=ns.map fun n=>UInt8.ofNat n.toNat
 | [],s,bs',e,r=>by
   simp only[qO,an]at e;subst e;simp only[dI]at r;subst r;exact⟨[],rfl,rfl⟩
 |x::xs,s,bs',e,r=>by
  obtain⟨y,ys,rx,rs,rfl⟩:=r;cases x with
  |int k m=>
   cases k<;>simp only[qO]at e<;>first|(cases e;done)|skip
   cases hx:qO xs with
   |none=>simp[hx]at e
   |some t=>
    simp only[hx,an]at e;subst e;simp only[dF]at rx;subst rx;obtain⟨ns,h1,h2⟩:=Cl xs t ys hx rs;exact⟨m::ns,by simp[h1],by simp[h2]⟩
  |_=>simp[qO]at e
theorem tc:∀(ns:List Int) (r:ByteArray),ns.foldl (fun r n=>r.push (UInt8.ofNat n.toNat)) r=⟨r.data++(ns.map fun n=>UInt8.ofNat n.toNat).toArray⟩
 | [],r=>by simp
 |n::ns,r=>by
  simp only[List.foldl_cons];rw[tc ns];simp[ByteArray.push]
theorem Kh{Mn dst:TypeId}{x:V}{x':Value}{r:R}(g:Good E h w)(hn:E.ι n=none)(rx:dF E x x')(e:qf P Mn dst x h n=some r):
  kf P E h n w (do pure (.value (<- convert Mn dst x'))) r:=by
 unfold qf at e;split at e
 . rename_i d k k' m h1 h2;obtain rfl:=ew e;simp only[dF]at rx;subst rx;refine dU g (v':=.int k (k.wrap m)) ?_ rfl;simp[convert,dr h1,dr h2,Conv.intToInt]
 . rename_i d s h1 h2;obtain rfl:=ew e;simp only[dF]at rx;subst rx;refine dU g (v':=.string ⟨s.toArray⟩) ?_ rfl;simp[convert,dr h1,dr h2]
 . rename_i el s h1 h2;simp only[dF]at rx;subst rx;split at e
   . rename_i hu;cases ho:newObj h n (.own .u8 (dX s))with
     |none=>simp[ho]at e
     |some p=>
      obtain⟨h',n'⟩:=p;simp only[ho,an]at e;subst e;have lQ:(⟨s.toArray⟩:ByteArray).size=s.length:=by show s.toArray.size=_;simp
      have fM:=run_bytes_of_string w Mn dst el ⟨s.toArray⟩ h1 h2 hu;rw[lQ]at fM;have nA:s.length<=grownCap w s.length 0 el:=by simp only[grownCap,Question.cut];omega
      have hc:(bytesRow ⟨s.toArray⟩ (grownCap w s.length 0 el)).size=grownCap w s.length 0 el:=by simp[bytesRow,lQ];omega
      refine HQ (r:=.is .u8 (dX s)) (w1:=w.drew) (c:=bytesRow ⟨s.toArray⟩ (grownCap w s.length 0 el)) (el:=el) (fz:=((bytesRow ⟨s.toArray⟩ (grownCap w s.length 0 el)).size,(bytesRow ⟨s.toArray⟩ (grownCap w s.length 0 el)).size+1)) (v':=.slice (some ⟨w.heap.size,0,none⟩) s.length (grownCap w s.length 0 el)) g hn trivial ho rfl rfl rfl rfl ?_ ?_ ?_ ?_
      . intro i hi q;simp at q;omega
      . simp only[Sem.run_bind,fM,Result.andThen_ok,Sem.run_pure]
      . intro i v q;obtain⟨v',q1,q2⟩:=gC (Ci (E:=E) s) i v (by rw[<- Cj];exact q);refine⟨v',?_,q2⟩;simp only[bytesRow,bE];rw[bR (by simpa using (aF.1 q1).1)];simpa using q1
      . refine⟨w.heap.size,0,0,grownCap w s.length 0 el,Env.eY,fun _=>rfl,aA _,nA,?_,rfl⟩;simp[Env.put,hc]
   . cases e
 . rename_i el f cs h1 h2;have hx:∃a cP,x'= .slice a 0 cP:=by obtain⟨a,cP,_,hx,_⟩:=rx.1;exact⟨a,cP,hx⟩
   obtain⟨a,cP,rfl⟩:=hx;split at e
   . rename_i hu;obtain rfl:=ew e;refine dU g (v':=.string .empty) ?_ rfl;cases a<;>simp[convert,dr h1,dr h2,dr hu,Conv.bytesToString,loadCells,loadCellsFrom]
   . cases e
 . rename_i el _ _ _ h1 h2;obtain⟨_,_,rfl⟩:=rx;split at e
   . rename_i hu;obtain rfl:=ew e;refine dU g (v':=.string .empty) ?_ rfl;simp[convert,dr h1,dr h2,dr hu,Conv.bytesToString]
   . cases e
 . rename_i el m o cO cP jv h1 h2;split at e
   . rename_i hu;split at e
     . rename_i TS;subst TS;obtain⟨b,sh,o',gj,hi,c1,c2,c3,c4,rfl⟩:=rx;split at e
       . rename_i s0 hm;split at e
         . rename_i kC;obtain rfl:=ew e;obtain⟨c,Xs,fz,xs,wG,Y3,Cm,DV⟩:=Kg g hi hm;subst Y3;refine dU g (v':=.string ⟨((s0.drop o).take cO).toArray⟩) ?_ rfl;rcases Nat.eq_zero_or_pos cO with vR|Y4
           . subst vR;simp[convert,dr h1,dr h2,dr hu,Conv.bytesToString,loadCells,loadCellsFrom];rfl
           . have kC:o+cO<=s0.length:=kC.resolve_left be;have TT:xs.length=s0.length:=by rw[<- Cm];simp[eN]
             have D9:o'=0+o:=c1 be;subst D9;have ads:l9 E 0 (xs.map (.int .u8)) c:=mN.2 (by simpa using DV);have hb:=nU ads (k:=o+cO) be (by simp;omega);have Xt:=run_loadCells (P:=P) (o:=0+o) (n:=cO) wG be;rw[Ck (nV ads (by simp;omega) be)]at Xt;rw[Sem.run_bind,run_convert_bytes_string w Mn dst el _ cO gj h1 hu h2,run_bytesToString w _ cO gj _ Xt,tc];simp[<- Cm,eN,cL,List.map_drop]
         . cases e
       . split at e
         . rename_i ks hm;split at e
           . rename_i kC;obtain rfl:=ew e;obtain⟨c,Xs,fz,wG,DV⟩:=NP g hi hm;refine dU g (v':=.string ⟨(eN ((ks.drop o).take cO)).toArray⟩) ?_ rfl;rcases Nat.eq_zero_or_pos cO with vR|Y4
             . subst vR;simp[convert,dr h1,dr h2,dr hu,Conv.bytesToString,loadCells,loadCellsFrom,eN];rfl
             . have kC:o+cO<=ks.length:=kC.resolve_left be;have D9:o'=sh+o:=c1 be;subst D9;have hb:=nU DV (k:=o+cO) be (by simpa using kC);have Xt:=run_loadCells (P:=P) (o:=sh+o) (n:=cO) wG be;rw[Ck (nV DV (by simpa using kC) be)]at Xt;rw[Sem.run_bind,run_convert_bytes_string w Mn dst el _ cO gj h1 hu h2,run_bytesToString w _ cO gj _ Xt,tc];simp[eN]
           . cases e
         . split at e
           . obtain rfl:=ew e;refine dU g (v':=.string .empty) ?_ rfl;simp[convert,dr h1,dr h2,dr hu,Conv.bytesToString,loadCells,loadCellsFrom]
           . rename_i vR;split at e
             . rename_i cs hm;cases hc:cut cs o cO with
               |none=>simp[hc]at e
               |some bs=>
                simp only[hc]at e;cases ht:qO bs with
                |none=>simp[ht]at e
                |some s=>
                 simp only[ht,an]at e;subst e;obtain⟨kC,rfl⟩:=zX hc;have Y4:0<cO:=by
                  cases cO with
                  |zero=>exact absurd rfl vR
                  |succ _=>omega
                 have D9:o'=sh+o:=c1 be;subst D9;obtain⟨b',sh',zM,c,Xs,fz,wG,_,_,DV⟩:=g.rel m _ hm;rw[hi]at zM;cases zM;have hb:=nU DV (k:=o+cO) be kC;have Xt:=run_loadCells (P:=P) (o:=sh+o) (n:=cO) wG be;obtain⟨ns,n1,n2⟩:=Cl _ s _ ht (nV DV kC be);rw[n1]at Xt;refine dU g (v':=.string ⟨s.toArray⟩) ?_ rfl;rw[Sem.run_bind,run_convert_bytes_string w Mn dst el _ cO gj h1 hu h2,run_bytesToString w _ cO gj ns Xt,tc,<- n2];simp
             . cases e
     . cases e
   . cases e
 . cases e
theorem EF{t:TypeId}{i:TypeInfo}{z:V}(hi:P.info? t=some i)(hz:zeroOf P t=some z):∃z',i.zero=some z'/\(zeroValue t).run P w= .ok z' w/\dF E z z':=by
 obtain⟨z',h1,h2,i',h3,h4⟩:=me (P:=P) (w:=w) E hz;rw[hi]at h3;cases h3;exact⟨z',h4,h1,h2⟩
theorem HU(k:IntKind)(ks:List Int):∀n,(tY ks n).map (V.int k)=gQ (ks.map (V.int k)) n
 |0=>rfl
 |n+1=>by rw[tY,gQ,aZ,HU k ks n]
theorem P6{z z':ag}(h:wk z z'):∀n,wk (gQ z n) (gQ z' n)
 |0=>iP _
 |n+1=>zT h (P6 h n)
theorem HV(ds:ai):∀n,D.jO (Bq ds n)=gQ (D.jO ds) n
 |0=>rfl
 |n+1=>by rw[Bq,gQ,<- HV ds n,D.gx,D.gx,D.gx,aZ]
theorem Mq{ds:ai}(h:∀x∈ds,x.scalar=true):∀n,∀x∈Bq ds n,x.scalar=true
 |0,x,hx=>by simp[Bq]at hx
 |n+1,x,hx=>(aU.1 hx).elim (h x) (Mq h n x)
theorem Cn(z:ag)(n:Nat):wk (gQ z n) (vJ z n).iL/\(vJ z n).sc:=by
 have key:∀z:ag,wk (gQ z n) (match ia z with|some ds=>Row.ds (Bq ds n)|none=>Row.vs (gQ z n)).iL/\(match ia z with|some ds=>Row.ds (Bq ds n)|none=>Row.vs (gQ z n)).sc:=by
  intro z;split
  . rename_i ds h;refine⟨?_,Mq (nT h) n⟩;simp only[Row.iL,HV];exact P6 (yo h) n
  . exact⟨iP _,trivial⟩
 unfold vJ;split
 . rename_i k x r;split
   . rename_i ks h;refine⟨?_,trivial⟩;rw[pX h];simp only[Row.iL,HU];exact iP _
   . exact key _
 . exact key _
theorem Gb{t:TypeId}{l c:V}{l' c':Value}{r:R}(g:Good E h w)(hn:E.ι n=none)(rl:dF E l l')(rc:dF E c c')(e:nN P t l c h n=some r):
  kf P E h n w (do pure (.value (<- Instr.makeSlice t l' c'))) r:=by
 unfold nN at e;split at e
 . rename_i el k l k' c he;simp only[dF]at rl rc;subst rl;subst rc;split at e
   . rename_i i z hi hz;simp only at e;split at e
     . rename_i hq;obtain⟨q1,q2,q3,q4,q5⟩:=hq;cases ho:newObj h n (vJ z.cells (IntKind.i64.wrap c).toNat).EC with
       |none=>simp[ho]at e
       |some p=>
        obtain⟨h',n'⟩:=p;simp only[ho,an]at e;subst e;obtain⟨z',Pt,NQ,hz3⟩:=EF (P:=P) (E:=E) (w:=w) hi hz;have hzc:=ij hz3;have PW:=Cg hzc be (IntKind.i64.wrap c).toNat;rw[q2]at PW;generalize hC:(IntKind.i64.wrap c)=C at *;generalize hL:(IntKind.i64.wrap l)=L at *;have hu:=HS he;have lQ:(sizeOf el).run P w= .ok i.size w:=by simp[sizeOf,typeInfo,hi]
        refine s7 (w1:=w) (c:=(Array.range (C.toNat*i.size)).map (z'.cells[·%z'.cells.size]!)) (el:=el) (v':=.slice (some ⟨w.heap.size,0,none⟩) L.toNat C.toNat) g hn (Cn _ _).2 ho rfl rfl rfl rfl ?_ (by refine yp (Cn _ _).1 ?_;exact ow PW) ?_
        . have P7:¬((i.bytes:Int)*C>2^48):=by omega
          simp only[Instr.makeSlice,Sem.run_bind,dr hu,Result.andThen_ok,asInt,asIntOf,Sem.run_pure,typeInfo,run_program,hi,hC,hL];rw[aI (by simp;omega)];simp only[Sem.run_bind,run_askRoom,Result.andThen_ok,lQ,Sem.run_ite,Sem.run_pure,NQ];by_cases h0:C.toNat*i.size=0
          . rw[aG h0];have e0:∀f:Nat->Value,Array.map f (Array.range 0)=#[]:=fun f=>by apply Array.ext' ;simp
            simp[h0,newRow,e0]
          . rw[aI h0];simp[newRow]
        . refine⟨w.heap.size,0,0,C.toNat,Env.eY,fun _=>rfl,be,aA _,?_,rfl⟩;simp[Env.put]
     . cases e
   . cases e
 . cases e
theorem HW{size k:Nat}{x:V}{new:Row}{x':Value}(g:Good E h w)(r:dF E x x')(e:jx h size x=some (k,new)):
  (∀w1:World,(Builtin.lenOf x').run P w1= .ok k w1)/\new.iL.length=k*size/\new.sc/\
   ∃kz:Array Value,(∀w1:World,w1.heap=w.heap->(Builtin.firstCells size k x').run P w1= .ok kz w1)/\dI E new.iL kz.toList:=by
 unfold jx at e;split at e
 . rename_i cO _ _;split at e
   . rename_i hl;obtain⟨rfl,rfl⟩:=fa e;obtain⟨_,_,rfl⟩:=r;exact⟨fun _=>rfl,by simp[Row.iL],trivial,#[],fun _ _=>rfl,by simp[dI,Row.iL]⟩
   . cases e
 . rename_i m o cO cP jv;split at e
   . rename_i TS;subst TS;obtain⟨b,sh,o',gj,hi,c1,c2,c3,c4,rfl⟩:=r;split at e
     . obtain⟨rfl,rfl⟩:=fa e;refine⟨fun _=>rfl,by simp[Row.iL],trivial,#[],fun _ _=>?_,by simp[dI,Row.iL]⟩;simp[Builtin.firstCells,loadCells,loadCellsFrom]
     . rename_i vR;split at e
       . rename_i ob hm;split at e
         . rename_i rw0 xo;cases rR:rw0.cut o (cO*jv)with
           |none=>simp[rR]at e
           |some x=>
            simp only[rR,an,aB]at e;obtain⟨rfl,rfl⟩:=e;obtain⟨kC,hx⟩:=zX (Row.F2 rR);have Y4:0<cO:=by
             cases cO with
             |zero=>exact absurd rfl vR
             |succ _=>omega
            have D9:o'=sh+o:=c1 be;subst D9;obtain⟨b',sh',zM,q0⟩:=g.rel m _ hm;obtain⟨⟨c,Xs,fz,wG,lQ,DV⟩,J7⟩:=NL xo q0;rw[hi]at zM;cases zM;have zZ:sh+o+cO*jv<=c.size:=by
             have:cO*jv<=gj*jv:=cn _ be;omega
            refine⟨fun _=>rfl,by rw[hx];simp;omega,Row.PN rR J7,((c.toList.drop (sh+o)).take (cO*jv)).toArray,fun w1 Hx=>?_,by rw[hx];simpa using nV DV kC zZ⟩;simp only[Builtin.firstCells];exact run_loadCells (by rw[Hx];exact wG) zZ
         . cases e
       . cases e
   . cases e
 . rename_i s;split at e
   . rename_i fQ;obtain⟨rfl,rfl⟩:=fa e;simp only[dF]at r;subst r;have lQ:(⟨s.toArray⟩:ByteArray).size=s.length:=by show s.toArray.size=_;simp
     refine⟨fun _=>?_,by simp[dX,fQ,Row.iL],trivial,(s.map fun b=>Value.int .u8 b.toNat).toArray,fun w1 _=>?_,by simp only[Row.iL,Cj];exact Ci s⟩
     . simp[Builtin.lenOf,lQ]
     . simp only[Builtin.firstCells,Sem.run_pure];congr 1;apply Array.ext';simp
   . cases e
 . rename_i f cO cs;split at e
   . rename_i hl;obtain⟨rfl,rfl⟩:=fa e;obtain⟨⟨a,cP,vs,rfl,nA,hd,h0,mG⟩,_⟩:=r;have hvl:=pJ hd;refine⟨fun _=>rfl,by simp only[Row.iL,D.gx,aW];exact hl,jg hd,vs.toArray,fun w1 Hx=>?_,by simpa[Row.iL]using vM _ _ hd⟩;rcases Nat.eq_zero_or_pos cO with hz|hp
     . have:=h0 hz;subst this;have hv:vs=[]:=by simpa using hvl
       subst hv;subst hz;cases a<;>simp[Builtin.firstCells,loadCells,loadCellsFrom]
     . obtain⟨b,o,c,rfl,BD,hc⟩:=mG hp;obtain⟨⟨el,fz,wG⟩,_⟩:=g.gM b c BD;have adt:(c.toList.drop o).take (cO*size)=vs:=by
        apply List.ext_getElem?;intro j;rw[bL,bH];by_cases hj:j<cO*size
        . rw[aG hj];have Y5:j<vs.length:=by omega
          have:=hc j _ (ay Y5);rw[ay Y5,<- this];simp
        . rw[aI hj,bP be]
       simp only[Builtin.firstCells];rcases Nat.eq_zero_or_pos (cO*size)with q|q
       . have hn:vs=[]:=by simpa[hl,q]using hvl
         subst hn;rw[q];rfl
       . have zZ:o+cO*size<=c.size:=by
          have:((c.toList.drop o).take (cO*size)).length=cO*size:=by rw[adt];omega
          simp at this;omega
         rw[run_loadCells (by rw[Hx];exact wG) zZ,adt]
   . cases e
 . cases e
end
section
variable{P:Program}{E:Env}{h:Tr O}{n:Nat}{w:World}
theorem ni(z:Array Value)(k:Nat):(Builtin.zeroCells z k).size=k*z.size:=by simp[Builtin.zeroCells]
theorem Co{NJ size bytes:Nat}(q:eT NJ size bytes=true):NJ*bytes<=281474976710/\NJ*size<=281474976710:=by
 simpa[eT]using q
theorem tT{b o:Nat}{el:TypeId}{fz:Nat×Nat}:∀(vs:List Value) (i:Nat) (w:World) (c:Array Value),w.heap[b]? =some (.cells c el fz)->
  (∀j,o+i<=j->j<o+i+vs.length->¬(fz.1<=j/\j<fz.2))->(∀v∈vs,v.oneCell'=true)->o+i+vs.length<=c.size->
  ∃w',(storeCells ⟨b,o,none⟩ vs i).run P w= .ok () w'/\w'.heap[b]? =some (.cells (putCells c (o+i) vs) el fz)/\w'.heap.size=w.heap.size/\w'.tape=w.tape/\w'.os=w.os/\w'.output=w.output/\
   ∀x,x≠b->w'.heap[x]? =w.heap[x]?
 | [],i,w,c,h,_,_,hn=>by
   refine⟨w,rfl,?_,rfl,rfl,rfl,rfl,fun _ _=>rfl⟩;rw[h];have:putCells c (o+i) []=c:=by simp[putCells]
   rw[this]
 |v::vs,i,w,c,h,hf,hv,hn=>by
  simp only[aT]at hn hf;have fJ:o+i<c.size:=by omega
  have hnf:w.frozen? ⟨b,o+i,none⟩=false:=by
   have:=hf (o+i) (aA _) be;simp only[World.frozen?,h];simpa using this
  let w1:=w.setCell ⟨b,o+i,none⟩ v
  have Hx:w1.heap[b]? =some (.cells (c.setIfInBounds (o+i) v) el fz):=by
   simp[w1,World.setCell,cm,h]
  obtain⟨w',e1,e2,e3,e4,e5,e6,e7⟩:=tT (o:=o) vs (i+1) w1 (c.setIfInBounds (o+i) v) Hx (fun j h1 h2=>hf j be be) (fun v hv'=>hv v (by simp[hv'])) (by simp only[Array.size_setIfInBounds];omega);refine⟨w',?_,?_,by rw[e3];simp[w1],by rw[e4];rfl,by rw[e5];rfl,by rw[e6];rfl,?_⟩
  . simp only[storeCells,Sem.run_bind];rw[run_store P w _ v .plain (hv v (by simp)),Addr.ja,nf h,bk fJ];simp only[hnf,aO,cG,Result.andThen_ok];exact e1
  . rw[e2];have:o+(i+1)=o+i+1:=by omega
    rw[this,rC be]
  . intro x hx;rw[e7 x hx];simp[w1,World.setCell,cm,Ne.symm hx]
theorem yE:∀{l:ag} {t:aa},uD l=some t->∃xs:List Int,l=xs.map (.int .u8)/\eN xs=t
 | [],t,h=>by simp only[uD,an]at h;subst h;exact⟨[],rfl,rfl⟩
 |v::r,t,h=>by
  unfold uD at h;split at h
  . rename_i q;cases q
  . rename_i x r' q;cases q;split at h
    . rename_i l hl;obtain rfl:=ew h;obtain⟨xs,h1,h2⟩:=yE hl;exact⟨x::xs,by rw[h1];rfl,by rw[<- h2];rfl⟩
    . cases h
  . cases h
theorem Gc{r:Row}{t:aa}(h:uE r=some t):∃xs:List Int,r.iL=xs.map (.int .u8)/\eN xs=t:=by
 unfold uE at h;split at h
 . rename_i ks;cases h;exact⟨ks,rfl,rfl⟩
 . exact yE h
 . cases h
theorem NR{xs:List Int}{l:List Value}(r:dI E (xs.map (.int .u8)) l):l=xs.map (.int .u8):=by
 induction xs generalizing l with
 |nil=>exact r
 |cons x xs ih=>
  obtain⟨y,ys,r0,rs,rfl⟩:=r;simp only[dF]at r0;subst r0;rw[ih rs];rfl
theorem gk:∀t:aa,eN (dX t)=t
 | []=>rfl
 |b::r=>by
  have ih:=gk r;simp only[eN,dX,bW,List.map_map]at ih ⊢;rw[ih];simp
theorem uN(xs:List Int):(eN xs).length=xs.length:=by simp[eN]
section
variable{st xt el ty:TypeId}{xd:TypeDesc}{i:TypeInfo}
theorem lR{z':Value}(hu:P.underlying st=some (.slice el))(hx:P.underlying xt=some xd)(NS:(∃y,xd= .slice y)\/xd= .string)
  (hi:P.info? el=some i) (hz:i.zero=some z') {base:Option Addr} {sLen sCap k:Nat} {x':Value} {old new:Array Value}
  (iT:∀w1:World,(Builtin.lenOf x').run P w1= .ok k w1) (oA:∀w1:World,w1.heap=w.heap->(Builtin.firstCells i.size sLen (.slice base sLen sCap)).run P w1= .ok old w1)
  (sX:∀w1:World,w1.heap=w.heap->(Builtin.firstCells i.size k x').run P w1= .ok new w1)
  (nA:sCap<sLen+k) (hb:0<i.bytes) (qU:(sLen+k)*i.bytes<=281474976710):
  (Builtin.append_ #[st,xt] ty #[.slice base sLen sCap,x']).run P w=
   .ok (.slice (some ⟨w.heap.size,0,none⟩) (sLen+k) (grownCap w (sLen+k) sCap el))
    (w.drew.alloc (.cells (old++new++Builtin.zeroCells z'.cells (grownCap w (sLen+k) sCap el-(sLen+k))) el)):=by
 have NT:Builtin.nextslicecap (sLen+k) sCap*i.bytes<=281474976710656:=growslice_fits nA be;have rU:¬(sLen+k<=sCap):=by omega
 have Xu:¬(281474976710656<Builtin.nextslicecap (sLen+k) sCap*i.bytes):=by omega
 have Hz:¬(i.bytes=0):=by omega
 have ho:=oA w.drew rfl;have hn:=sX w.drew rfl;rcases NS with⟨y,rfl⟩|rfl
 . simp[Builtin.append_,dr hu,dr hx,sizeOf,typeInfo,zeroValue,hi,hz,iT,rU,Xu,Hz,Question.forced,newRow,grownCap,ho,hn]
 . simp[Builtin.append_,dr hu,dr hx,sizeOf,typeInfo,zeroValue,hi,hz,iT,rU,Xu,Hz,Question.forced,newRow,grownCap,ho,hn]
theorem run_append_room(hu:P.underlying st=some (.slice el))(hx:P.underlying xt=some xd)(NS:(∃y,xd= .slice y)\/xd= .string)
  (hi:P.info? el=some i) {base:Option Addr} {sLen sCap k:Nat} {x':Value} {new:Array Value}
  (iT:∀w1:World,(Builtin.lenOf x').run P w1= .ok k w1) (sX:(Builtin.firstCells i.size k x').run P w= .ok new w) (nA:sLen+k<=sCap):
  (Builtin.append_ #[st,xt] ty #[.slice base sLen sCap,x']).run P w=
   ((match base with|some a=>storeCells (a.add (sLen*i.size)) new.toList|none=>pure ()).run P w).andThen fun _ w'=>.ok (.slice base (sLen+k) sCap) w':=by
 rcases NS with⟨y,rfl⟩|rfl
 . cases base<;>simp[Builtin.append_,dr hu,dr hx,sizeOf,typeInfo,hi,iT,nA,sX]
 . cases base<;>simp[Builtin.append_,dr hu,dr hx,sizeOf,typeInfo,hi,iT,nA,sX]
end
theorem NU{eE:Array TypeId}{ty:TypeId}{args:ag}{c9:List Value}{r:R}(g:Good E h w)(hn:E.ι n=none)(ra:dI E args c9)
  (e:yj P eE args h n=some r) (ha:eE.size=2):kf P E h n w (do pure (.value (<- Builtin.append_ eE ty c9.toArray))) r:=by
 unfold yj at e;split at e
 . rename_i st xt s x h1 h2;obtain⟨s',_,rs,⟨x',_,rx,qm,rfl⟩,rfl⟩:=ra;simp only[dI]at qm;subst qm;have iY:eE=#[st,xt]:=by
    apply Array.ext
    . simpa using ha
    . intro i q1 q2;have:i=0\/i=1:=by simp at q2;omega
      rcases this with rfl|rfl
      . rw[bk q1]at h1;simpa using h1
      . rw[bk q1]at h2;simpa using h2
   subst iY;split at e
   . rename_i el xd he hx;split at e
     . rename_i i z Y6 hi hz;have NS:(∃y,xd= .slice y)\/xd= .string:=by
        unfold J0 at Y6;split at Y6
        . exact .inl ⟨_,rfl⟩
        . exact .inr rfl
        . cases Y6
       have hu:=HS he;split at e
       . rename_i hq;obtain⟨q1,q2,q3⟩:=hq;obtain⟨z',Pt,NQ,hz3⟩:=EF (P:=P) (E:=E) (w:=w) hi hz;have Xv:z'.cells.size=i.size:=by have:=eL (ij hz3);simp at this;omega
         split at e
         . rename_i k new ht;obtain⟨t1,t2,tsc,kz,t3,t4⟩:=HW g rx ht;have Mp:kz.size=k*i.size:=by have:=eL t4;simp at this;omega
           split at e
           . rename_i ajj;have J7:=Row.PO ajj tsc;split at e
             ·
              obtain⟨_,rR,rfl⟩:=rs;split at e
              . obtain rfl:=ew e;refine dU g (v':=.slice none 0 0) ?_ ⟨rfl,rfl,rfl⟩;rw[Sem.run_bind,run_append_room hu hx NS hi t1 (t3 w rfl) be];rfl
              . rename_i Ps;have hk:0<k:=by
                 cases k with
                 |zero=>exact absurd rfl Ps
                 |succ _=>omega
                split at e
                . rename_i qU;cases ho:newObj h n (B7 el x new)with
                  |none=>simp[ho]at e
                  |some p=>
                   obtain⟨h',n'⟩:=p;simp only[ho,an]at e;subst e;obtain⟨r1,r2⟩:=Co qU;have fM:=lR (w:=w) (ty:=ty) hu hx NS hi Pt (base:=none) (sLen:=0) (sCap:=0) (x':=x') (old:=#[]) t1 (fun _ _=>rfl) t3 be q2 (by simpa using r1);simp only[bE]at fM;have nA:k<=grownCap w k 0 el:=by simp only[grownCap,Question.cut];omega
                   have lQ:(#[]++kz++Builtin.zeroCells z'.cells (grownCap w k 0 el-k)).size=grownCap w k 0 el*i.size:=by
                    simp only[Array.size_append,ni,Xv,Mp,Array.size_empty];rw[bE,<- cN];congr 1;omega
                   have DV:l9 E 0 new.iL (#[]++kz++Builtin.zeroCells z'.cells (grownCap w k 0 el-k)):=by
                    intro j v q;obtain⟨v',p1,p2⟩:=gC t4 j v q;refine⟨v',?_,p2⟩;have hj:j<kz.size:=by have:=(aF.1 p1).1;simpa using this
                    rw[bR (by simp;omega)];simpa using p1
                   have hvs:dF (E.put n w.heap.size 0 (#[]++kz++Builtin.zeroCells z'.cells (grownCap w k 0 el-k)).size) (.di (some (n,0)) k k i.size) (.slice (some ⟨w.heap.size,0,none⟩) k (grownCap w k 0 el)):=by
                    refine⟨w.heap.size,0,0,grownCap w k 0 el,Env.eY,fun _=>rfl,aA _,nA,?_,rfl⟩;rw[lQ];simp[Env.put]
                   have AR:(do pure (.value (<- Builtin.append_ #[st,xt] ty #[.slice none 0 0,x'])):Sem Next).run P w= .ok (.value (.slice (some ⟨w.heap.size,0,none⟩) k (grownCap w k 0 el))) (w.drew.alloc (.cells (#[]++kz++Builtin.zeroCells z'.cells (grownCap w k 0 el-k)) el)):=by
                    simp only[Sem.run_bind,fM,Result.andThen_ok,Sem.run_pure]
                   unfold B7 at ho;split at ho
                   . rename_i t;obtain⟨gH,rfl,rfl⟩:=kK ho;simp only[jx]at ht;split at ht
                     case isFalse=>cases ht
                     rename_i fQ;obtain⟨rfl,rfl⟩:=fa ht;have nW:=mN.1 DV;have ua:=iy.alloc (n:=n) (ob:=.cells (#[]++kz++Builtin.zeroCells z'.cells (grownCap w t.length 0 el-t.length)) el) (o:=.iX el false t) (w:=w.drew) (g.same rfl) hn gH (by
                      refine⟨_,_,dX t,heap_alloc_new,rfl,by simp[Env.put,jS],⟨.inl rfl,fun _=>rfl⟩,gk t,fun j x hx=>?_⟩;have:=nW j x hx;simpa using this)
                     exact⟨_,_,_,.inl AR,hvs,(iy.drew g).trans ua,fun m' sW=>Env.fB sW,.inr rfl⟩
                   . exact s7 (r:=new) (w1:=w.drew) (c:=#[]++kz++Builtin.zeroCells z'.cells (grownCap w k 0 el-k)) (el:=el) g hn tsc ho rfl rfl rfl rfl AR DV hvs
                . cases e
             ·
              rename_i cO cs _;obtain⟨⟨a,cP,vs,rfl,nA,hd,Uk,mG⟩,yC⟩:=rs;obtain⟨_,yC⟩:=yC rfl;simp only[Value.slice.injEq]at yC;obtain⟨_,_,hq⟩:=yC;have hq:=hq.symm;subst hq;split at e
              . obtain rfl:=ew e;refine dU g (v':=.slice a cO cO) ?_ ⟨⟨a,cO,vs,rfl,nA,hd,Uk,mG⟩,fun _=>⟨a,rfl⟩⟩;rw[Sem.run_bind,run_append_room hu hx NS hi t1 (t3 w rfl) be];have Uk:kz.toList=[]:=by simp at t2;simpa[t2]using eL t4
                rw[Uk];cases a<;>rfl
              . rename_i Ps;have hk:0<k:=by
                 cases k with
                 |zero=>exact absurd rfl Ps
                 |succ _=>omega
                split at e
                . rename_i qU;obtain⟨qU,hl⟩:=qU;cases ho:newObj h n ((Row.ds cs).app new).EC with
                  |none=>simp[ho]at e
                  |some p=>
                   obtain⟨h',n'⟩:=p;simp only[ho,an]at e;subst e;obtain⟨r1,r2⟩:=Co qU;obtain⟨t1',_,_,Bs,t3',t4'⟩:=HW (P:=P) (size:=i.size) (x:=.dM true cO cs) (x':=.slice a cO cO) g ⟨⟨a,cO,vs,rfl,nA,hd,Uk,mG⟩,fun _=>⟨a,rfl⟩⟩ (k:=cO) (new:=.ds cs) (by simp only[jx,aG hl]);have fM:=lR (w:=w) (ty:=ty) hu hx NS hi Pt (base:=a) (sLen:=cO) (sCap:=cO) (x':=x') (old:=Bs) t1 t3' t3 be q2 r1;have nA:cO+k<=grownCap w (cO+k) cO el:=by simp only[grownCap,Question.cut];omega
                   have hol:Bs.size=cO*i.size:=by have:=eL t4';simp[Row.iL,D.gx,hl]at this;omega
                   have lQ:(Bs++kz++Builtin.zeroCells z'.cells (grownCap w (cO+k) cO el-(cO+k))).size=grownCap w (cO+k) cO el*i.size:=by
                    simp only[Array.size_append,ni,Xv,Mp,hol];rw[<- cN,<- cN];congr 1;omega
                   refine s7 (r:=(Row.ds cs).app new) (w1:=w.drew) (c:=Bs++kz++Builtin.zeroCells z'.cells (grownCap w (cO+k) cO el-(cO+k))) (el:=el) (v':=.slice (some ⟨w.heap.size,0,none⟩) (cO+k) (grownCap w (cO+k) cO el)) g hn (Row.J9 (jg hd) tsc) ho rfl rfl rfl rfl ?_ ?_ ?_
                   . simp only[Sem.run_bind,fM,Result.andThen_ok,Sem.run_pure]
                   . refine yp (Row.J8 _ _) ?_;intro j v q;have q':=iB t4' t4;obtain⟨v',p1,p2⟩:=gC q' j v q;refine⟨v',?_,p2⟩;have hj:=(aF.1 p1).1;rw[bR (by simp at hj ⊢;omega)];rw[<- bK];simpa using p1
                   . refine⟨w.heap.size,0,0,grownCap w (cO+k) cO el,Env.eY,fun _=>rfl,aA _,nA,?_,rfl⟩;rw[lQ];simp[Env.put]
                . cases e
             ·
              rename_i m o cO cP jv _;split at e
              . rename_i hq2;obtain⟨u1,u2,u3⟩:=hq2;subst u1;obtain⟨b,sh,o',gj,kD,c1,c2,c3,c4,rfl⟩:=rs;obtain⟨r1,r2⟩:=Co u2;split at e
                ·
                 rename_i Ul AL s0 hm;split at e
                 case h_2=>cases e
                 rename_i t ht;split at e
                 case isFalse=>cases e
                 rename_i adw;obtain⟨⟨ho0,adx⟩,⟨iT,yC⟩,Ea,ajl⟩:=adw;obtain⟨b',sh',zM,c,fz,xs,wG,Y3,lQ,⟨BD,Ki⟩,Cm,mh⟩:=g.rel m _ hm;rw[kD]at zM;cases zM;subst Y3;have D9:o'=0:=by have:=c1 adx;omega
                 subst D9;obtain⟨ys,hy1,hy2⟩:=Gc ht;rw[hy1]at t4;have hnv:=NR t4;have asg:xs.length=s0.length:=by rw[<- Cm,uN]
                 generalize hX:xs.take cO=TU;have TT:TU.length=cO:=by rw[<- hX,aX];omega
                 have Um:∀(j:Nat) (x:Int),TU[j]? =some x->c[j]? =some (.int .u8 x):=fun j x hx=>by
                  rw[<- hX,bL]at hx;split at hx
                  . exact mh j x hx
                  . cases hx
                 have hyl:ys.length=k:=by have:=aN List.length hy1;simp at this;rw[<- this,t2,Ea];omega
                 cases ho:newObj (h.set m none) n (.iX Ul AL (s0.take cO++t))with
                 |none=>simp[ho]at e
                 |some p=>
                  obtain⟨h',n'⟩:=p;simp only[ho,an]at e;subst e;subst ajl;obtain⟨gH,rfl,rfl⟩:=kK ho;have Y7:eN (TU++ys)=s0.take cO++t:=by rw[<- hX,<- Cm,<- hy2];simp[eN,cL]
                  have htl:(s0.take cO++t).length=cO+k:=by rw[<- Y7,uN,ax,TT,hyl]
                  by_cases qU:cO+k<=gj
                  ·
                   have Xw:0+(cO+k)*i.size<=c.size:=by
                    have:(cO+k)*i.size<=gj*i.size:=cn _ qU;omega
                   rw[Ea]at Xw c4;have Ke:∀v∈kz.toList,v.oneCell'=true:=by
                    intro v hv;rw[hnv]at hv;obtain⟨x,_,rfl⟩:=bB.1 hv;rfl
                   have Ue:kz.toList.length=k:=by rw[hnv,aW,hyl]
                   obtain⟨w',e1,e2,e3,e4,e5,e6,e7⟩:=tT (P:=P) (o:=cO) kz.toList 0 w c wG (fun j h1 h2 h3=>by
                    have hj:j<c.size:=by omega
                    cases AL with
                    |true=>
                     have:=yC rfl;omega
                    |false=>have:=Ki rfl;omega) Ke be
                   have pA:cO+kz.toList.length<=c.size:=by omega
                   have Kj:=iy.move (n:=n) (s':=0) (o:=.iX Ul AL (s0.take cO++t)) g u3 gH hn ⟨_,hm,rfl⟩ kD e3 e4 e5 e6 e7 (by
                    refine⟨_,fz,TU++ys,e2,rfl,by rw[Nat.add_zero,jE pA];simp[Env.put,lQ],⟨?_,Ki⟩,Y7,fun j x hx=>?_⟩
                    . rw[htl];cases AL with
                      |true=>have:=yC rfl;omega
                      |false=>exact .inl (Ki rfl)
                    . rw[Nat.add_zero,ng pA];by_cases hj:j<cO
                      . rw[bz be]at hx;rw[aI be];exact Um j x hx
                      . rw[cj be,TT]at hx;have Y5:j-cO<ys.length:=(aF.1 hx).1;rw[aG be,hnv,br,hx];rfl)
                   refine⟨_,w',.slice (some ⟨b,0,none⟩) (cO+k) gj,.inl ?_,?_,Kj,fun m' sW=>Env.fB sW,.inr rfl⟩
                   . rw[Sem.run_bind,run_append_room hu hx NS hi t1 (t3 w rfl) qU];simp only[Addr.ja,Ea,bj,bE,e1,Result.andThen_ok,Sem.run_pure]
                   . refine⟨b,0,0,gj,Env.eY,fun _=>rfl,aA _,qU,?_,rfl⟩;simpa[Env.put,Ea]using c4
                  ·
                   have v1:0+cO*i.size<=c.size:=by
                    have:cO*i.size<=gj*i.size:=cn _ be;omega
                   have oA:(c.toList.drop 0).take (cO*i.size)=TU.map (Value.int .u8):=by
                    rw[Ea,bj]at *;apply List.ext_getElem?;intro j;rw[bL,br];by_cases hj:j<cO
                    . rw[aG hj,bu];have Y5:j<TU.length:=by omega
                      rw[ay Y5];have:=Um j _ (ay Y5);simpa using this
                    . rw[aI hj,bP be];rfl
                   have hf:∀w1:World,w1.heap=w.heap->(Builtin.firstCells i.size cO (.slice (some ⟨b,0,none⟩) cO gj)).run P w1= .ok ((c.toList.drop 0).take (cO*i.size)).toArray w1:=fun w1 Hx=>by
                    simp only[Builtin.firstCells];exact run_loadCells (by rw[Hx];exact wG) v1
                   have fM:=lR (w:=w) (ty:=ty) hu hx NS hi Pt t1 hf t3 be q2 r1;have nA:cO+k<=grownCap w (cO+k) gj Ul:=by simp only[grownCap,Question.cut];omega
                   have uf:=iy.forget g u3;rw[oA]at fM;have yF:((TU.map (Value.int .u8)).toArray).size=cO:=by simp[TT]
                   have Ue:kz.size=k:=by rw[Mp,Ea,bj]
                   generalize hC:((TU.map (Value.int .u8)).toArray++kz++Builtin.zeroCells z'.cells (grownCap w (cO+k) gj Ul-(cO+k)))=C at fM;have hCs:C.size=grownCap w (cO+k) gj Ul*i.size:=by
                    rw[<- hC,Array.size_append,Array.size_append,ni,Xv,Ue,yF,Ea,bj,bj];omega
                   have ua:=iy.alloc (n:=n) (ob:=.cells C Ul) (o:=.iX Ul AL (s0.take cO++t)) (w:=w.drew) (uf.good.same rfl) hn gH (by
                    refine⟨C,_,TU++ys,heap_alloc_new,rfl,by simp[Env.put,jS],⟨.inl rfl,fun _=>rfl⟩,Y7,fun j x hx=>?_⟩;rw[<- hC];have NV:j<(TU++ys).length:=(aF.1 hx).1;rw[ax]at NV;rw[bR (by rw[Array.size_append,yF,Ue];omega)];by_cases hj:j<cO
                    . rw[bz be]at hx;rw[bR be];simp[hx]
                    . rw[cj be]at hx;rw[Array.getElem?_append_right be,yF,<- bK,hnv,br,<- TT,hx];rfl)
                   refine⟨_,_,.slice (some ⟨w.heap.size,0,none⟩) (cO+k) (grownCap w (cO+k) gj Ul),.inl (by simp only[Sem.run_bind,fM,Result.andThen_ok,Sem.run_pure]),?_,(uf.trans (iy.drew uf.good)).trans ua,fun m' sW=>Env.fB sW,.inr rfl⟩;refine⟨w.heap.size,0,0,grownCap w (cO+k) gj Ul,Env.eY,fun _=>rfl,aA _,nA,?_,rfl⟩;simp[Env.put,jS,hCs]
                . rename_i ob _ hm;split at e
                  . rename_i rw0 xo;obtain⟨b',sh',zM,q0⟩:=g.rel m _ hm;obtain⟨⟨c,Xs,fz,wG,lQ,Ki,DV⟩,YZ⟩:=HO xo q0;rw[kD]at zM;cases zM;split at e
                    . rename_i old oA;have ady:old.sc/\o'+cO*i.size<=c.size/\dI E old.iL ((c.toList.drop o').take (cO*i.size)):=by
                       have Hz:cO*i.size<=gj*i.size:=cn _ be;refine⟨?_,be,?_⟩
                       . split at oA
                         . obtain rfl:=ew oA;trivial
                         . exact Row.PN oA YZ
                       split at oA
                       . rename_i vR;obtain⟨_,rfl⟩:=vR;obtain rfl:=ew oA;simp[dI,Row.iL]
                       . rename_i vR;rcases Nat.eq_zero_or_pos cO with hlz|hl
                         . obtain⟨_,P9⟩:=zX (Row.F2 oA);rw[P9,hlz];simp[dI]
                         obtain⟨kC,P9⟩:=zX (Row.F2 oA);rw[P9];have D9:o'=sh+o:=c1 be;subst D9;exact nV DV kC be
                      obtain⟨adz,v1,v2⟩:=ady;have hol:old.iL.length=cO*i.size:=by have:=eL v2;simp at this;omega
                      split at e
                      . rename_i Ps;obtain⟨_,hk1⟩:=Ps;obtain rfl:=ew e;subst hk1;refine dU g (v':=.slice (some ⟨b,o',none⟩) cO gj) ?_ ⟨b,sh,o',gj,kD,c1,c2,c3,c4,rfl⟩;have Uk:kz.toList=[]:=by simp at Mp;simp[Mp]
                        rw[Sem.run_bind,run_append_room hu hx NS hi t1 (t3 w rfl) be,Uk];rfl
                      . rename_i Ps;cases ho:newObj (h.set m none) n (old.app new).EC with
                        |none=>simp[ho]at e
                        |some p=>
                         obtain⟨h',n'⟩:=p;simp only[ho,an]at e;subst e;obtain⟨gH,rfl,rfl⟩:=kK ho;by_cases qU:cO+k<=gj
                         ·
                          have Xw:o'+(cO+k)*i.size<=c.size:=by
                           have:(cO+k)*i.size<=gj*i.size:=cn _ qU;omega
                          have asl:(cO+k)*i.size=cO*i.size+k*i.size:=cN _ _ _;have Ke:∀v∈kz.toList,v.oneCell'=true:=by
                           intro v hv;obtain⟨j,hj⟩:=List.getElem?_of_mem hv;have fJ:j<new.iL.length:=by rw[<- eL t4];exact(aF.1 hj).1
                           obtain⟨v',p1,p2⟩:=gC t4 j new.iL[j] (ay fJ);rw[hj]at p1;cases p1;exact uJ p2 (by rw[bn]at J7;exact J7 _ (bY fJ))
                          obtain⟨w',e1,e2,e3,e4,e5,e6,e7⟩:=nh (P:=P) (o:=o'+cO*i.size) kz.toList 0 w c wG Ki Ke (by simp;omega);have pA:o'+cO*i.size+kz.toList.length<=c.size:=by simp;omega
                          have Kj:=iy.move (n:=n) (s':=o') (o:=(old.app new).EC) g u3 gH hn ⟨_,hm,PR xo⟩ kD e3 e4 e5 e6 e7 (by
                           have kC:E.le (E.put n b o' (E.β b)):=Env.rz hn fun _ _ _ _ _=>rfl;refine yq ⟨_,Xs,fz,e2,by rw[jE (by simpa using pA)];simp[Env.put,lQ],by rw[jE (by simpa using pA)];exact Ki,?_⟩ (Row.J9 adz tsc);refine yp (Row.J8 _ _) ?_;refine pW kC ?_;intro j v q;rw[ng (by simpa using pA)];by_cases hj:j<cO*i.size
                           . rw[bz be]at q;rw[aI be];obtain⟨v',p1,p2⟩:=gC v2 j v q;refine⟨v',?_,p2⟩;rw[bL,aG hj,bH]at p1;simpa using p1
                           . rw[cj be,hol]at q;have Y5:j-cO*i.size<new.iL.length:=(aF.1 q).1;rw[aG (by simp;omega)];obtain⟨v',p1,p2⟩:=gC t4 _ v q;refine⟨v',?_,p2⟩;rw[<- p1];congr 1;omega)
                          refine⟨_,w',.slice (some ⟨b,o',none⟩) (cO+k) gj,.inl ?_,?_,Kj,fun m' sW=>Env.fB sW,.inr rfl⟩
                          . rw[Sem.run_bind,run_append_room hu hx NS hi t1 (t3 w rfl) qU];simp only[Addr.ja,e1,Result.andThen_ok,Sem.run_pure]
                          . refine⟨b,o',o',gj,Env.eY,fun _=>rfl,aA _,qU,?_,rfl⟩;simpa[Env.put]using c4
                         ·
                          have hf:∀w1:World,w1.heap=w.heap->(Builtin.firstCells i.size cO (.slice (some ⟨b,o',none⟩) cO gj)).run P w1= .ok ((c.toList.drop o').take (cO*i.size)).toArray w1:=fun w1 Hx=>by
                           simp only[Builtin.firstCells];exact run_loadCells (by rw[Hx];exact wG) v1
                          have fM:=lR (w:=w) (ty:=ty) hu hx NS hi Pt t1 hf t3 be q2 r1;have nA:cO+k<=grownCap w (cO+k) gj el:=by simp only[grownCap,Question.cut];omega
                          have uf:=iy.forget g u3;have yF:((c.toList.drop o').take (cO*i.size)).toArray.size=cO*i.size:=by simp;omega
                          have HX:(((c.toList.drop o').take (cO*i.size)).toArray++kz++Builtin.zeroCells z'.cells (grownCap w (cO+k) gj el-(cO+k))).size=grownCap w (cO+k) gj el*i.size:=by
                           rw[Array.size_append,Array.size_append,ni,Xv,Mp,yF];rw[<- cN,<- cN];congr 1;omega
                          obtain⟨E',w',v',p1,p2,p3,p4,p5⟩:=s7 (P:=P) (r:=old.app new) (s:=(do pure (.value (<- Builtin.append_ #[st,xt] ty #[.slice (some ⟨b,o',none⟩) cO gj,x'])):Sem Next))
                           (v:=.di (some (n,0)) (cO+k) (cO+k) i.size) (w1:=w.drew) (c:=((c.toList.drop o').take (cO*i.size)).toArray++kz++Builtin.zeroCells z'.cells (grownCap w (cO+k) gj el-(cO+k))) (el:=el)
                           (v':=.slice (some ⟨w.heap.size,0,none⟩) (cO+k) (grownCap w (cO+k) gj el)) uf.good hn (Row.J9 adz tsc) ho rfl rfl rfl rfl
                           (by simp only[Sem.run_bind,fM,Result.andThen_ok,Sem.run_pure])
                           (by
                            refine yp (Row.J8 _ _) ?_;intro j v q;have q':=iB v2 t4;obtain⟨v',p1,p2⟩:=gC q' j v q;refine⟨v',?_,p2⟩;have hj:=(aF.1 p1).1;rw[bR (by simp at hj ⊢;omega)];rw[<- bK];simpa using p1)
                           (by
                            refine⟨w.heap.size,0,0,grownCap w (cO+k) gj el,Env.eY,fun _=>rfl,aA _,nA,?_,rfl⟩;rw[HX];simp[Env.put])
                          exact⟨E',w',v',p1,p2,uf.trans p3,p4,p5⟩
                    . cases e
                  . cases e
                . cases e
              . cases e
             . cases e
           . cases e
         . cases e
       . cases e
     . cases e
   . cases e
 . cases e
end
theorem jn{kk:Option IntKind}{a b:D}(ha:gD kk a=true)(hb:gD kk b=true):iR a b=true↔a=b:=by
 cases kk with
 |none=>
  cases a<;>simp only[gD,aO]at ha;cases b<;>simp only[gD,aO]at hb;rename_i s t;simp only[iR,ga,beq_iff_eq,D.str.injEq]
 |some k=>
  cases a<;>simp only[gD,aO,bC]at ha;cases b<;>simp only[gD,aO,bC]at hb;subst ha;subst hb;simp[iR]
theorem HY{φ:Nat->Option (Array Value)}{kd:TypeDesc}{kk:Option IntKind}{a b:D}{a' b':Value}(hd:mE kd kk=true)(ha:gD kk a=true)(hb:gD kk b=true)(ra:kO φ a a')(rb:kO φ b b'):
  Instr.sameNow kd a' b'=some (iR a b):=by
 cases kk with
 |none=>
  cases a<;>simp only[gD,aO]at ha;cases b<;>simp only[gD,aO]at hb;simp only[kO]at ra rb;subst ra;subst rb;cases kd<;>simp only[mE,aO]at hd;simp only[Instr.sameNow,iR];rw[rQ]
 |some k=>
  cases a<;>simp only[gD,aO,bC]at ha;cases b<;>simp only[gD,aO,bC]at hb;subst ha;subst hb;simp only[kO]at ra rb;subst ra;subst rb;cases kd<;>simp only[mE,aO]at hd;simp[Instr.sameNow,iR];rfl
theorem vS{φ:Nat->Option (Array Value)}{kd:TypeDesc}{kk:Option IntKind}{k:D}{k':Value}(hd:mE kd kk=true)(hk:gD kk k=true)(rk:kO φ k k'):
  ∀(l:ae) (fW:List MapEntry) (i:Nat),jQ φ l fW->(∀e∈l,gD kk e.1=true)->
  match dj k l with
  |none=>Instr.findNow kd k' fW i=some none/\(∀v,ig k v l=l++[(k,v)])/\lO k l=l/\k∉l.map (·.1)
  |some d=>∃j e',i<=j/\fW[j-i]? =some e'/\kO φ d e'.val/\kO φ k e'.key/\Instr.findNow kd k' fW i=some (some (j,e'.val))/\l[j-i]? =some (k,d)/\(∀v,ig k v l=l.set (j-i) (k,v))/\lO k l=l.eraseIdx (j-i)
 | [],fW,i,r,_=>by
   simp only[jQ]at r;subst r;simp only[dj];exact⟨rfl,fun _=>rfl,rfl,by simp⟩
 |x::l,_,i,r,hl=>by
  obtain⟨y,ys,r1,r2,rs,rfl⟩:=r;have hx:=hl x (by simp);have hs:=HY hd hk hx rk r1;simp only[dj];cases hq:iR k x.1 with
  |true=>
   have e:=(jn hk hx).1 hq;refine⟨i,y,aA _,by simp,r2,by rw[e];exact r1,?_,?_,fun v=>?_,?_⟩
   . simp only[Instr.findNow,hs,hq]
   . simp[e]
   . simp[ig,hq]
   . simp[lO,hq]
  |false=>
   have ih:=vS hd hk rk l ys (i+1) rs fun e he=>hl e (by simp[he]);simp only;cases hL:dj k l with
   |none=>
    rw[hL]at ih;obtain⟨i1,i2,i3,i4⟩:=ih;refine⟨?_,fun v=>?_,?_,?_⟩
    . simp only[Instr.findNow,hs,hq,i1]
    . simp[ig,hq,i2]
    . simp[lO,hq,i3]
    . intro h;simp only[bW,aE]at h;rcases h with q|q
      . rw[(jn hk hx).2 q]at hq;cases hq
      . exact i4 q
   |some d=>
    rw[hL]at ih;obtain⟨j,e',j1,j2,j3,j4,j5,j6,j7,j8⟩:=ih;have hj:j-i=(j-(i+1))+1:=by omega
    refine⟨j,e',be,by rw[hj];simpa using j2,j3,j4,?_,by rw[hj];simpa using j6,fun v=>?_,?_⟩
    . simp only[Instr.findNow,hs,hq,j5]
    . rw[hj];simp[ig,hq,j7]
    . rw[hj];simp[lO,hq,j8]
theorem z7{kk:Option IntKind}{k d:D}(hk:gD kk k=true):∀{l:ae},(∀e∈l,gD kk e.1=true)->(l.map (·.1)).Nodup->(dj k l=some d↔(k,d)∈l)
 | [],_,_=>by simp[dj]
 |x::l,hl,hn=>by
  have hx:=hl x (by simp);simp only[bW,cg]at hn;simp only[dj];cases hq:iR k x.1 with
  |true=>
   have e:=(jn hk hx).1 hq;simp only[an,aE];constructor
   . intro h;left;rw[e,<- h]
   . rintro(h|h)
     . rw[<- h]
     . exact absurd (bB.2 ⟨(k,d),h,e⟩) hn.1
  |false=>
   have e:k≠x.1:=fun h=>by rw[(jn hk hx).2 h]at hq;cases hq
   simp only[aE];rw[z7 hk (fun e he=>hl e (by simp[he])) hn.2];constructor
   . exact .inr
   . rintro(h|h)
     . exact absurd (by rw[<- h]) e
     . exact h
section
variable{kk:Option IntKind}{k:D}
theorem Kk(hk:gD kk k=true){l es:ae}(h:List.Perm l es)(hl:∀e∈es,gD kk e.1=true)(hn:(es.map (·.1)).Nodup):dj k l=dj k es:=by
 have hl':∀e∈l,gD kk e.1=true:=fun e he=>hl e (h.mem_iff.1 he);have pC:(l.map (·.1)).Nodup:=(h.map _).nodup_iff.2 hn;apply Option.ext;intro d;rw[z7 hk hl' pC,z7 hk hl hn,h.mem_iff]
theorem NW{v:D}(hk:gD kk k=true){l es:ae}(h:List.Perm l es):(∀e∈es,gD kk e.1=true)->(es.map (·.1)).Nodup->List.Perm (ig k v l) (ig k v es):=by
 induction h with
 |nil=>intro _ _;exact .refl _
 |cons x p ih=>
  intro hl hn;simp only[ig];cases iR k x.1 with
  |true=>exact .cons _ p
  |false=>exact .cons _ (ih (fun e he=>hl e (by simp[he])) (by simp at hn;exact hn.2))
 |swap x y l=>
  intro hl hn;simp only[ig];have hx:=hl x (by simp);have hy:=hl y (by simp);cases hqx:iR k x.1 with
  |true=>
   have ex:=(jn hk hx).1 hqx;cases hqy:iR k y.1 with
   |true=>
    have ey:=(jn hk hy).1 hqy;simp[<- ex,<- ey]at hn
   |false=>exact .swap _ _ _
  |false=>
   cases hqy:iR k y.1 with
   |true=>exact .swap _ _ _
   |false=>exact .swap _ _ _
 |trans p q Qa Qb=>
  intro hl hn;exact(Qa (fun e he=>hl e (q.mem_iff.1 he)) ((q.map _).nodup_iff.2 hn)).trans (Qb hl hn)
theorem NX(hk:gD kk k=true){l es:ae}(h:List.Perm l es):(∀e∈es,gD kk e.1=true)->(es.map (·.1)).Nodup->List.Perm (lO k l) (lO k es):=by
 induction h with
 |nil=>intro _ _;exact .refl _
 |cons x p ih=>
  intro hl hn;simp only[lO];cases iR k x.1 with
  |true=>exact p
  |false=>exact .cons _ (ih (fun e he=>hl e (by simp[he])) (by simp at hn;exact hn.2))
 |swap x y l=>
  intro hl hn;simp only[lO];have hx:=hl x (by simp);have hy:=hl y (by simp);cases hqx:iR k x.1 with
  |true=>
   have ex:=(jn hk hx).1 hqx;cases hqy:iR k y.1 with
   |true=>
    have ey:=(jn hk hy).1 hqy;simp[<- ex,<- ey]at hn
   |false=>exact .refl _
  |false=>
   cases hqy:iR k y.1 with
   |true=>exact .refl _
   |false=>exact .swap _ _ _
 |trans p q Qa Qb=>
  intro hl hn;exact(Qa (fun e he=>hl e (q.mem_iff.1 he)) ((q.map _).nodup_iff.2 hn)).trans (Qb hl hn)
end
theorem EG{φ:Nat->Option (Array Value)}{f:MapEntry->MapEntry}{x:D×D}(hf:∀y,kO φ x.1 (f y).key/\kO φ x.2 (f y).val):∀(l:ae) (es:List MapEntry) (i:Nat),jQ φ l es->jQ φ (l.set i x) (es.modify i f)
 | [],_,i,r=>by simp only[jQ]at r;subst r;simp[jQ]
 |a::l,_,i,r=>by
  obtain⟨y,ys,r1,r2,rs,rfl⟩:=r;cases i with
  |zero=>exact⟨f y,ys,(hf y).1,(hf y).2,rs,by simp⟩
  |succ i=>exact⟨y,_,r1,r2,EG hf l ys i rs,by simp⟩
theorem Cp{φ:Nat->Option (Array Value)}:∀(l:ae) (es:List MapEntry) (x:D×D) (y:MapEntry),jQ φ l es->kO φ x.1 y.key->kO φ x.2 y.val->jQ φ (l++[x]) (es++[y])
 | [],_,x,y,r,a,b=>by simp only[jQ]at r;subst r;exact⟨y,[],a,b,rfl,rfl⟩
 |z::l,_,x,y,r,a,b=>by
  obtain⟨y0,ys,r1,r2,rs,rfl⟩:=r;exact⟨y0,_,r1,r2,Cp l ys x y rs a b,rfl⟩
theorem AS{φ:Nat->Option (Array Value)}:∀(l:ae) (es:List MapEntry) (i:Nat),jQ φ l es->jQ φ (l.eraseIdx i) (es.eraseIdx i)
 | [],_,i,r=>by simp only[jQ]at r;subst r;simp[jQ]
 |a::l,_,i,r=>by
  obtain⟨y,ys,r1,r2,rs,rfl⟩:=r;cases i with
  |zero=>exact rs
  |succ i=>exact⟨y,_,r1,r2,AS l ys i rs,rfl⟩
theorem yG{φ:Nat->Option (Array Value)}:∀{l:ae} {es:List MapEntry},jQ φ l es->es.length=l.length
 | [],_,r=>by simp only[jQ]at r;subst r;rfl
 |_::_,_,r=>by obtain⟨y,ys,_,_,rs,rfl⟩:=r;simp[yG rs]
open Classical in
theorem z8{kk:Option IntKind}{k v:D}(hk:gD kk k=true):∀(l:ae),(∀e∈l,gD kk e.1=true)->(ig k v l).map (·.1)=if k∈l.map (·.1)then l.map (·.1)else l.map (·.1)++[k]
 | [],_=>by simp[ig]
 |x::l,hl=>by
  have hx:=hl x (by simp);simp only[ig];cases hq:iR k x.1 with
  |true=>
   have e:=(jn hk hx).1 hq;simp[e]
  |false=>
   have e:k≠x.1:=fun h=>by rw[(jn hk hx).2 h]at hq;cases hq
   simp only[bW,z8 hk l fun e he=>hl e (by simp[he]),aE,e,false_or];split<;>simp
theorem HZ{k:D}:∀(l:ae),List.Sublist (lO k l) l
 | []=>.slnil
 |x::l=>by
  simp only[lO];cases iR k x.1 with
  |true=>exact List.sublist_cons_self _ _
  |false=>exact .cons_cons _ (HZ l)
open Classical in
section
variable{φ:Nat->Option (Array Value)}{kd:TypeDesc}{kk:Option IntKind}{es:ae}{fW:Array MapEntry}{eo:Nat}{k:D}{k':Value}
theorem jR.qo{v:D}{k' v':Value}(r:jR φ kk es fW.toList eo)(hd:mE kd kk=true)(hk:gD kk k=true)(rk:kO φ k k')(rv:kO φ v v'):
  (Instr.findNow kd k' fW.toList 0=some none/\jR φ kk (ig k v es) (fW.push { key:=k',val:=v',born:=eo }).toList (eo+1)) \/
  ∃(j:Nat) (e':MapEntry),Instr.findNow kd k' fW.toList 0=some (some (j,e'.val))/\fW[j]? =some e'/\kO φ k e'.key/\jR φ kk (ig k v es) (fW.modify j fun e=>{ e with key:=k',val:=v' }).toList eo:=by
 obtain⟨l,hp,hr⟩:=r.row;have hl:∀e∈l,gD kk e.1=true:=fun e he=>r.kind e (hp.mem_iff.1 he);have Qc:=NW (v:=v) hk hp r.kind r.keys;have H6:((ig k v es).map (·.1)).Nodup:=by
  rw[z8 hk es r.kind];split
  . exact r.keys
  . rename_i h;exact List.nodup_append.2 ⟨r.keys,by simp,fun a ha b hb=>by simp at hb;subst hb;intro q;subst q;exact h ha⟩
 have H7:∀e∈ig k v es,gD kk e.1=true:=by
  intro e he;have:e.1∈(ig k v es).map (·.1):=bB.2 ⟨e,he,rfl⟩;rw[z8 hk es r.kind]at this;have base:e.1∈es.map (·.1)->gD kk e.1=true:=fun h=>by obtain⟨x,hx,q⟩:=bB.1 h;rw[<- q];exact r.kind x hx
  split at this
  . exact base this
  . rcases aU.1 this with h|h
    . exact base h
    . simp at h;rw[h];exact hk
 have hf:=vS hd hk rk l fW.toList 0 hr hl;cases hL:dj k l with
 |none=>
  rw[hL]at hf;obtain⟨h1,h2,_,_⟩:=hf;refine .inl ⟨h1,⟨⟨_,Qc,?_⟩,H6,H7,?_,?_⟩⟩
  . rw[h2,Array.toList_push];exact Cp l fW.toList (k,v) _ hr rk rv
  . intro e he;rw[Array.toList_push]at he;rcases aU.1 he with q|q
    . have:=r.old e q;omega
    . simp at q;subst q;simp
  . rw[Array.toList_push,aZ];refine List.nodup_append.2 ⟨r.born,by simp,fun a ha b hb=>?_⟩;simp at hb;subst hb;obtain⟨e,he,q⟩:=bB.1 ha;have:=r.old e he;omega
 |some d=>
  rw[hL]at hf;obtain⟨j,e',_,h2,h3,h4,h5,h6,h7,_⟩:=hf;simp only[Nat.sub_zero]at h2 h6 h7;have Mr:(fW.modify j fun e=>{ e with key:=k',val:=v' }).toList.map (·.born)=fW.toList.map (·.born):=by
   rw[Array.toList_modify];apply List.ext_getElem?;intro i;simp only[br,List.getElem?_modify];by_cases Pu:j=i
   . simp[Pu];cases fW.toList[i]? <;>rfl
   . simp[Pu]
  refine .inr ⟨j,e',h5,by rw[<- bK];exact h2,h4,⟨⟨_,Qc,?_⟩,H6,H7,?_,?_⟩⟩
  . rw[h7,Array.toList_modify];exact EG (f:=fun e=>{ e with key:=k',val:=v' }) (fun y=>⟨rk,rv⟩) l fW.toList j hr
  . intro e he;have:e.born∈(fW.modify j fun e=>{ e with key:=k',val:=v' }).toList.map (·.born):=bB.2 ⟨e,he,rfl⟩;rw[Mr]at this;obtain⟨e0,he0,q⟩:=bB.1 this;rw[<- q];exact r.old e0 he0
  . rw[Mr];exact r.born
theorem jR.del(r:jR φ kk es fW.toList eo)(hd:mE kd kk=true)(hk:gD kk k=true)(rk:kO φ k k'):
  (Instr.findNow kd k' fW.toList 0=some none/\jR φ kk (lO k es) fW.toList eo) \/
  ∃(j:Nat) (e':MapEntry),Instr.findNow kd k' fW.toList 0=some (some (j,e'.val))/\jR φ kk (lO k es) (fW.eraseIdxIfInBounds j).toList eo:=by
 obtain⟨l,hp,hr⟩:=r.row;have hl:∀e∈l,gD kk e.1=true:=fun e he=>r.kind e (hp.mem_iff.1 he);have Qc:=NX hk hp r.kind r.keys;have uO:List.Sublist (lO k es) es:=HZ es;have H6:((lO k es).map (·.1)).Nodup:=r.keys.sublist (uO.map _);have H7:∀e∈lO k es,gD kk e.1=true:=fun e he=>r.kind e (uO.mem he);have hf:=vS hd hk rk l fW.toList 0 hr hl;cases hL:dj k l with
 |none=>
  rw[hL]at hf;obtain⟨h1,_,h3,_⟩:=hf;exact .inl ⟨h1,⟨⟨l,by rw[h3]at Qc;exact Qc,hr⟩,H6,H7,r.old,r.born⟩⟩
 |some d=>
  rw[hL]at hf;obtain⟨j,e',_,h2,_,_,h5,_,_,h8⟩:=hf;simp only[Nat.sub_zero]at h2 h8;have ht:(fW.eraseIdxIfInBounds j).toList=fW.toList.eraseIdx j:=Array.toList_eraseIdxIfInBounds;refine .inr ⟨j,e',h5,⟨⟨_,Qc,?_⟩,H6,H7,?_,?_⟩⟩
  . rw[h8,ht];exact AS l fW.toList j hr
  . intro e he;rw[ht]at he;exact r.old e ((List.eraseIdx_sublist _ _).mem he)
  . rw[ht];exact r.born.sublist ((List.eraseIdx_sublist _ _).map _)
theorem jR.look(r:jR φ kk es fW.toList eo)(hd:mE kd kk=true)(hk:gD kk k=true)(rk:kO φ k k'):
  match dj k es with
  |none=>Instr.findNow kd k' fW.toList 0=some none
  |some d=>∃j v',Instr.findNow kd k' fW.toList 0=some (some (j,v'))/\kO φ d v':=by
 obtain⟨l,hp,hr⟩:=r.row;have hl:∀e∈l,gD kk e.1=true:=fun e he=>r.kind e (hp.mem_iff.1 he);have hf:=vS hd hk rk l fW.toList 0 hr hl;rw[<- Kk hk hp r.kind r.keys];cases hL:dj k l with
 |none=>rw[hL]at hf;exact hf.1
 |some d=>
  rw[hL]at hf;obtain⟨j,e',_,_,h3,_,h5,_⟩:=hf;exact⟨j,e'.val,h5,h3⟩
end
theorem jR.length{φ:Nat->Option (Array Value)}{kk:Option IntKind}{es:ae}{fW:List MapEntry}{eo:Nat}(r:jR φ kk es fW eo):fW.length=es.length:=by
 obtain⟨l,hp,hr⟩:=r.row;rw[yG hr,hp.length_eq]
theorem vT{E:Env}{x:V}{d:D}{x':Value}(e:keyOf x=some d)(r:dF E x x'):kO E.φ d x':=by
 unfold keyOf at e;split at e<;>first|(cases e;exact r)|cases e
theorem Cq{x:V}{d:D}{kd:TypeDesc}{kk:Option IntKind}(e:keyOf x=some d)(hd:mE kd kk=true)(hk:gD kk d=true):B6 kd x=true:=by
 unfold keyOf at e;split at e
 . cases e;cases kk<;>simp only[gD,aO]at hk;cases kd<;>simp only[mE,aO]at hd;rfl
 . cases e;cases kk<;>simp only[gD,aO]at hk;cases kd<;>simp only[mE,aO]at hd;rfl
 . cases e
section
variable{P:Program}{E:Env}{h:Tr O}{n:Nat}{w:World}
theorem fc{b:Nat}{o:Obj}(hb:w.heap[b]? =some o)(hn:∀c el fz,o≠ .cells c el fz):(getObj b).run P w= .ok o w:=by
 simp only[getObj,Sem.run,hb]
theorem mO{b:Nat}{o o':Obj}(hb:w.heap[b]? =some o)(hn:∀c el fz,o≠ .cells c el fz):(setObj b o').run P w= .ok () { w with heap:=w.heap.setIfInBounds b o' }:=by
 simp only[setObj,Sem.run,hb]
theorem yH:∀{xs:List (V×V×Nat)} {ys:List MapEntry},kG E xs ys->ys.length=xs.length
 | [],_,r=>by simp only[kG]at r;subst r;rfl
 |_::_,_,r=>by obtain⟨y,ys,_,_,_,rs,rfl⟩:=r;simp[yH rs]
theorem yI{m:Nat}{es:List (V×V×Nat)}{eo:Nat}(g:Good E h w)(hm:h.get m=some (.map es eo)):
  ∃b fW,E.ι m=some (b,0)/\w.heap[b]? =some (.map fW eo)/\kG E es fW.toList:=by
 obtain⟨b,s,hi,hs,fW,h1,h2⟩:=g.rel m _ hm;subst hs;exact⟨b,fW,hi,h1,h2⟩
theorem uP{m:Nat}{kk:Option IntKind}{es:ae}(g:Good E h w)(hm:h.get m=some (.dy kk es)):
  ∃b fW eo,E.ι m=some (b,0)/\w.heap[b]? =some (.map fW eo)/\jR E.φ kk es fW.toList eo:=by
 obtain⟨b,s,hi,hs,fW,eo,h1,h2⟩:=g.rel m _ hm;subst hs;exact⟨b,fW,eo,hi,h1,h2⟩
theorem Y8{eE:Array TypeId}{ty:TypeId}{args:ag}{c9:List Value}{v:V}(g:Good E h w)(ra:dI E args c9)(e:NK P eE args h=some v):
  kf P E h n w (do pure (.value (<- Builtin.len_ eE ty c9.toArray))) (.val v h n):=by
 unfold NK at e;split at e
 . rename_i t x h1;obtain⟨x',_,rx,qm,rfl⟩:=ra;simp only[dI]at qm;subst qm;split at e
   . rename_i s hu;obtain rfl:=ew e;simp only[dF]at rx;subst rx;refine dU g (v':=.int .i64 s.length) ?_ rfl;have lQ:(⟨s.toArray⟩:ByteArray).size=s.length:=by show s.toArray.size=_;simp
     simp[Builtin.len_,h1,dr hu,goInt,lQ]
   . rename_i _ k _ hu;obtain rfl:=ew e;refine dU g (v':=.int .i64 k) ?_ rfl;simp[Builtin.len_,h1,dr hu,goInt]
   . rename_i a cO cP jv hu;obtain rfl:=ew e;refine dU g (v':=.int .i64 cO) ?_ rfl;cases a with
     |none=>obtain⟨rfl,rfl,rfl⟩:=rx;simp[Builtin.len_,h1,dr hu,goInt]
     |some a=>obtain⟨_,_,_,_,_,_,_,_,_,rfl⟩:=rx;simp[Builtin.len_,h1,dr hu,goInt]
   . rename_i f cO cs hu;obtain rfl:=ew e;refine dU g (v':=.int .i64 cO) ?_ rfl;obtain⟨⟨_,_,_,rfl,_⟩,_⟩:=rx;simp[Builtin.len_,h1,dr hu,goInt]
   . rename_i hu;obtain rfl:=ew e;simp only[dF]at rx;subst rx;refine dU g (v':=.int .i64 0) ?_ rfl;simp[Builtin.len_,h1,dr hu,goInt]
   . rename_i m hu;split at e
     . rename_i es eo hm;obtain rfl:=ew e;obtain⟨b,fW,hi,hb,DX⟩:=yI g hm;obtain⟨b',kD,rfl⟩:=rx;rw[hi]at kD;cases kD;refine dU g (v':=.int .i64 es.length) ?_ rfl;have hl:=yH DX;simp only[Array.length_toList]at hl;simp[Builtin.len_,h1,dr hu,goInt,fc (P:=P) hb (by intro _ _ _ q;cases q),hl]
     . rename_i kk es hm;obtain rfl:=ew e;obtain⟨b,fW,eo,hi,hb,DX⟩:=uP g hm;obtain⟨b',kD,rfl⟩:=rx;rw[hi]at kD;cases kD;refine dU g (v':=.int .i64 es.length) ?_ rfl;have hl:=DX.length;simp only[Array.length_toList]at hl;simp[Builtin.len_,h1,dr hu,goInt,fc (P:=P) hb (by intro _ _ _ q;cases q),hl]
     . cases e
   . cases e
 . cases e
theorem H8:∀(xs:ag) (x v:V) (x':Value) (Cb:List Value),dF E x x'->dI E xs Cb->HI x xs=some v->
  ∃v',(Cb.foldlM Builtin.max2 x').run P w= .ok v' w/\dF E v v'
 | [],x,v,x',Cb,rx,rs,e=>by
   simp only[dI]at rs;subst rs;have:v=x:=by cases x<;>simp[HI]at e<;>exact e.symm
   subst this;exact⟨x',rfl,rx⟩
 |y::ys,x,v,x',_,rx,rs,e=>by
  obtain⟨y',J4,ry,rys,rfl⟩:=rs;cases x with
  |int k a=>cases y with
   |int j b=>
    simp only[HI]at e;simp only[dF]at rx ry;subst rx;subst ry;obtain⟨v',h1,h2⟩:=H8 ys (.int k (if b>a then b else a)) v (.int k (if b>a then b else a)) J4 rfl rys e;refine⟨v',?_,h2⟩;simp only[List.foldlM_cons,Sem.run_bind,Builtin.max2,Sem.run_pure,Result.andThen_ok];exact h1
   |_=>simp[HI]at e
  |_=>simp[HI]at e
theorem H9:∀(xs:ag) (x v:V) (x':Value) (Cb:List Value),dF E x x'->dI E xs Cb->HJ x xs=some v->
  ∃v',(Cb.foldlM Builtin.min2 x').run P w= .ok v' w/\dF E v v'
 | [],x,v,x',Cb,rx,rs,e=>by
   simp only[dI]at rs;subst rs;have:v=x:=by cases x<;>simp[HJ]at e<;>exact e.symm
   subst this;exact⟨x',rfl,rx⟩
 |y::ys,x,v,x',_,rx,rs,e=>by
  obtain⟨y',J4,ry,rys,rfl⟩:=rs;cases x with
  |int k a=>cases y with
   |int j b=>
    simp only[HJ]at e;simp only[dF]at rx ry;subst rx;subst ry;obtain⟨v',h1,h2⟩:=H9 ys (.int k (if b<a then b else a)) v (.int k (if b<a then b else a)) J4 rfl rys e;refine⟨v',?_,h2⟩;simp only[List.foldlM_cons,Sem.run_bind,Builtin.min2,Sem.run_pure,Result.andThen_ok];exact h1
   |_=>simp[HJ]at e
  |_=>simp[HJ]at e
section
variable{eE:Array TypeId}{ty:TypeId}
theorem Y9{x v:V}{xs:ag}{c9:List Value}(g:Good E h w)(ra:dI E (x::xs) c9)(e:HI x xs=some v):
  kf P E h n w (do pure (.value (<- Builtin.max_ eE ty c9.toArray))) (.val v h n):=by
 obtain⟨x',Cb,rx,rxs,rfl⟩:=ra;obtain⟨v',h1,h2⟩:=H8 (P:=P) (w:=w) xs x v x' Cb rx rxs e;refine dU g (v':=v') ?_ h2;simp only[Builtin.max_,Sem.run_bind,h1,Result.andThen_ok,Sem.run_pure]
theorem Za{x v:V}{xs:ag}{c9:List Value}(g:Good E h w)(ra:dI E (x::xs) c9)(e:HJ x xs=some v):
  kf P E h n w (do pure (.value (<- Builtin.min_ eE ty c9.toArray))) (.val v h n):=by
 obtain⟨x',Cb,rx,rxs,rfl⟩:=ra;obtain⟨v',h1,h2⟩:=H9 (P:=P) (w:=w) xs x v x' Cb rx rxs e;refine dU g (v':=v') ?_ h2;simp only[Builtin.min_,Sem.run_bind,h1,Result.andThen_ok,Sem.run_pure]
end
theorem NY{kd:TypeDesc}{a b:V}{a' b':Value}{r:Bool}(ra:dF E a a')(rb:dF E b b')(e:yg kd a b=some r):Instr.sameNow kd a' b'=some r:=by
 unfold yg at e;split at e
 . simp only[dF]at ra rb;subst ra;subst rb;split at e
   . rename_i hk;obtain rfl:=ew e;simp[Instr.sameNow,hk]
   . cases e
 . simp only[dF]at ra rb;subst ra;subst rb;obtain rfl:=ew e;simp only[Instr.sameNow];rw[rQ]
 . cases e
theorem vU{kd:TypeDesc}{k:V}{k':Value}(rk:dF E k k'):∀(es:List (V×V×Nat)) (fW:List MapEntry) (i:Nat) (r:Option (Nat×V×V×Nat)),kG E es fW->uA kd k es i=some r->
  match r with
  |none=>Instr.findNow kd k' fW i=some none
  |some (j,e)=>∃e',i<=j/\es[j-i]? =some e/\fW[j-i]? =some e'/\yg kd k e.1=some true/\dF E e.1 e'.key/\dF E e.2.1 e'.val/\e'.born=e.2.2/\Instr.findNow kd k' fW i=some (some (j,e'.val))
 | [],fW,i,r,rs,e=>by
   simp only[kG]at rs;subst rs;simp only[uA,an]at e;subst e;simp[Instr.findNow]
 |x::xs,_,i,r,rs,e=>by
  obtain⟨y,ys,r1,r2,r3,rs,rfl⟩:=rs;simp only[uA]at e;cases hk:yg kd k x.1 with
  |none=>simp[hk]at e
  |some b=>
   have hs:=NY rk r1 hk;cases b with
   |true=>
    simp only[hk,an]at e;subst e;exact⟨y,aA _,by simp,by simp,hk,r1,r2,r3,by simp[Instr.findNow,hs]⟩
   |false=>
    simp only[hk]at e;have ih:=vU rk xs ys (i+1) r rs e;cases r with
    |none=>simp only at ih ⊢;simp[Instr.findNow,hs,ih]
    |some q=>
     obtain⟨j,e0⟩:=q;obtain⟨e',a1,a2,a3,a4,a5,a6,a7,a8⟩:=ih;have hj:j-i=(j-(i+1))+1:=by omega
     exact⟨e',be,by rw[hj];simpa using a2,by rw[hj];simpa using a3,a4,a5,a6,a7,by simp[Instr.findNow,hs,a8]⟩
section
variable{kt:TypeId}{kd:TypeDesc}{k:V}{k':Value}{b:Bool}
theorem gB{fW:List MapEntry}{r:Option (Nat×Value)}(hu:P.underlying kt=some kd)(e:Instr.findNow kd k' fW 0=some r):
  (Instr.findKey kt k' fW).run P w= .ok r w:=by
 simp[Instr.findKey,dr hu,e]
theorem wQ(d:Nat)(hu:P.underlying kt=some kd)(rk:dF E k k')(e:B6 kd k=true):(Instr.checkKey b (d+1) kt k').run P w= .ok () w:=by
 unfold B6 at e;split at e
 . simp only[dF]at rk;subst rk;simp only[Instr.checkKey,Sem.run_bind,dr hu,Result.andThen_ok];rfl
 . simp only[dF]at rk;subst rk;simp only[Instr.checkKey,Sem.run_bind,dr hu,Result.andThen_ok];rfl
 . cases e
theorem jh(hu:P.underlying kt=some kd)(rk:dF E k k')(e:B6 kd k=true):(Instr.checkKey b 10000 kt k').run P w= .ok () w:=
 wQ 9999 hu rk e
end
theorem NZ{t:TypeId}{x k v:V}{ok:Bool}{x' k':Value}(g:Good E h w)(rx:dF E x x')(rk:dF E k k')(e:vK P t h x k ok=some v):
  kf P E h n w (do pure (.value (<- Instr.lookup t x' k' ok))) (.val v h n):=by
 unfold vK at e;split at e
 . rename_i kt et hu;split at e
   . rename_i kd z hk hz;split at e
     . rename_i r kk es hm;split at e
       . rename_i kq Kl;split at e
         . rename_i hb;simp only[aC]at hb;simp only[an]at e;obtain⟨z',Pt,NQ,_⟩:=me (w:=w) E hz;obtain⟨b,fW,eo,hi,wG,hr⟩:=uP g hm;obtain⟨b',kD,rfl⟩:=rx;rw[hi]at kD;cases kD;have uc:=fc (P:=P) wG (by intro _ _ _ q;cases q);have Ms:=Cq Kl hb.1 hb.2;have Ia:=jh (P:=P) (w:=w) (b:=fW.isEmpty) hk rk Ms;have Un:=hr.look hb.1 hb.2 (vT Kl rk);cases hL:dj kq es with
           |none=>
            rw[hL]at Un e;have fM:(Instr.lookup t (.map (some b)) k' ok).run P w= .ok (if ok then .tuple #[z',.bool false]else z') w:=by
             simp only[Instr.lookup,Sem.run_bind,dr hu,Result.andThen_ok,Sem.run_pure,uc,Ia,gB hk Un,Pt]
            subst e;refine dU g (v':=if ok then .tuple #[z',.bool false]else z') (by rw[Sem.run_bind,fM];rfl) ?_;cases ok with
            |true=>exact⟨[z',.bool false],⟨z',_,NQ,⟨.bool false,[],rfl,rfl,rfl⟩,rfl⟩,rfl⟩
            |false=>exact NQ
           |some d=>
            rw[hL]at Un e;obtain⟨j,v',q1,q2⟩:=Un;have fM:(Instr.lookup t (.map (some b)) k' ok).run P w= .ok (if ok then .tuple #[v',.bool true]else v') w:=by
             simp only[Instr.lookup,Sem.run_bind,dr hu,Result.andThen_ok,Sem.run_pure,uc,Ia,gB hk q1]
            subst e;refine dU g (v':=if ok then .tuple #[v',.bool true]else v') (by rw[Sem.run_bind,fM];rfl) ?_;cases ok with
            |true=>exact⟨[v',.bool true],⟨v',_,lu d v' q2,⟨.bool true,[],rfl,rfl,rfl⟩,rfl⟩,rfl⟩
            |false=>exact lu d v' q2
         . cases e
       . cases e
     rename_i x _ _ Km;split at e
     . rename_i Ms;obtain⟨z',Pt,NQ,_⟩:=me (w:=w) E hz;have PZ:∀(es:List (V×V×Nat)) (fW:Array MapEntry),kG E es fW.toList->(match uA kd k es 0 with
         |some (some (_,_,v,_))=>some (if ok then V.ef [v,.bool true]else v)
         |some none=>some (if ok then V.ef [z,.bool false]else z)
         |none=>none)=some v->
         ((Instr.findKey kt k' fW.toList).run P w= .ok none w/\dF E v (if ok then .tuple #[z',.bool false]else z')) \/
         ∃j v',(Instr.findKey kt k' fW.toList).run P w= .ok (some (j,v')) w/\dF E v (if ok then .tuple #[v',.bool true]else v'):=by
        intro es fW DX e;cases hf:uA kd k es 0 with
        |none=>simp[hf]at e
        |some r=>
         have hr:=vU rk es fW.toList 0 r DX hf;cases r with
         |none=>
          simp only[hf,an]at e;subst e;refine .inl ⟨gB hk hr,?_⟩;cases ok with
          |true=>exact⟨[z',.bool false],⟨z',_,NQ,⟨.bool false,[],rfl,rfl,rfl⟩,rfl⟩,rfl⟩
          |false=>exact NQ
         |some q=>
          obtain⟨j,k0,v0,n0⟩:=q;simp only[hf,an]at e;subst e;obtain⟨e',_,_,_,_,_,a6,_,a8⟩:=hr;refine .inr ⟨j,e'.val,gB hk a8,?_⟩;cases ok with
          |true=>exact⟨[e'.val,.bool true],⟨e'.val,_,a6,⟨.bool true,[],rfl,rfl,rfl⟩,rfl⟩,rfl⟩
          |false=>exact a6
       cases x with
       |map m=>
        cases m with
        |none=>
         simp only at e;simp only[dF]at rx;subst rx;rcases PZ [] #[] (by simp[kG]) e with⟨m1,m3⟩|⟨j,v',m1,m3⟩
         . refine dU g ?_ m3;simp only[Instr.lookup,Sem.run_bind,dr hu,Result.andThen_ok,Sem.run_pure,jh (b:=(#[]:Array MapEntry).isEmpty) hk rk Ms,m1,Pt]
         . refine dU g ?_ m3;simp only[Instr.lookup,Sem.run_bind,dr hu,Result.andThen_ok,Sem.run_pure,jh (b:=(#[]:Array MapEntry).isEmpty) hk rk Ms,m1]
        |some m=>
         simp only at e;cases hm:h.get m with
         |none=>simp[hm]at e
         |some o=>
          cases o with
          |map es eo=>
           simp only[hm]at e;obtain⟨b,fW,hi,hb,DX⟩:=yI g hm;obtain⟨b',kD,rfl⟩:=rx;rw[hi]at kD;cases kD;have uc:=fc (P:=P) hb (by intro _ _ _ q;cases q);rcases PZ es fW DX e with⟨m1,m3⟩|⟨j,v',m1,m3⟩
           . refine dU g ?_ m3;simp only[Instr.lookup,Sem.run_bind,dr hu,Result.andThen_ok,Sem.run_pure,uc,jh (b:=fW.isEmpty) hk rk Ms,m1,Pt]
           . refine dU g ?_ m3;simp only[Instr.lookup,Sem.run_bind,dr hu,Result.andThen_ok,Sem.run_pure,uc,jh (b:=fW.isEmpty) hk rk Ms,m1]
          |_=>simp[hm]at e
       |_=>simp at e
     . cases e
   . cases e
 . cases e
theorem pO{f:V×V×Nat->V×V×Nat}{f':MapEntry->MapEntry}(hf:∀x y,dF E x.1 y.key->dF E x.2.1 y.val->y.born=x.2.2->dF E (f x).1 (f' y).key/\dF E (f x).2.1 (f' y).val/\(f' y).born=(f x).2.2):
  ∀(xs:List (V×V×Nat)) (ys:List MapEntry) (i:Nat),kG E xs ys->kG E (sP xs i f) (ys.modify i f')
 | [],_,i,r=>by simp only[kG]at r;subst r;simp[sP,kG]
 |x::xs,_,i,r=>by
  obtain⟨y,ys,a,b,c,rs,rfl⟩:=r;cases i with
  |zero=>obtain⟨p,q,s⟩:=hf x y a b c;exact⟨f' y,ys,p,q,s,rs,by simp⟩
  |succ i=>exact⟨y,_,a,b,c,pO hf xs ys i rs,by simp⟩
theorem xp:∀(xs:List (V×V×Nat)) (ys:List MapEntry) (x:V×V×Nat) (y:MapEntry),kG E xs ys->dF E x.1 y.key->dF E x.2.1 y.val->y.born=x.2.2->kG E (xs++[x]) (ys++[y])
 | [],_,x,y,r,a,b,c=>by simp only[kG]at r;subst r;exact⟨y,[],a,b,c,rfl,rfl⟩
 |z::zs,_,x,y,r,a,b,c=>by
  obtain⟨y0,ys,a0,b0,c0,rs,rfl⟩:=r;exact⟨y0,_,a0,b0,c0,xp zs ys x y rs a b c,rfl⟩
section
variable{m b eo clock':Nat}
theorem yJ{es tU:List (V×V×Nat)}{fW Bt:Array MapEntry}(g:Good E h w)(gH:m<fN)(hm:h.get m=some (.map es eo))(hi:E.ι m=some (b,0))(hb:w.heap[b]? =some (.map fW eo))
  (DX:kG E tU Bt.toList):iy E h w E (h.set m (some (.map tU clock'))) { w with heap:=w.heap.setIfInBounds b (.map Bt clock') }:=by
 have fJ:b<w.heap.size:=(aQ.1 hb).1;refine iy.write g gH ⟨_,hm,rfl⟩ hi (by simp) rfl rfl rfl (fun x hx=>?_) ⟨rfl,Bt,?_,DX⟩
 . simp[Ne.symm hx]
 . simp[fJ]
theorem yK{kk:Option IntKind}{es tU:ae}{fW Bt:Array MapEntry}(g:Good E h w)(gH:m<fN)(hm:h.get m=some (.dy kk es))(hi:E.ι m=some (b,0))(hb:w.heap[b]? =some (.map fW eo))
  (DX:jR E.φ kk tU Bt.toList clock'):iy E h w E (h.set m (some (.dy kk tU))) { w with heap:=w.heap.setIfInBounds b (.map Bt clock') }:=by
 have fJ:b<w.heap.size:=(aQ.1 hb).1;refine iy.write g gH ⟨_,hm,rfl⟩ hi (by simp) rfl rfl rfl (fun x hx=>?_) ⟨rfl,Bt,clock',?_,DX⟩
 . simp[Ne.symm hx]
 . simp[fJ]
end
theorem Cr{kd:TypeDesc}{a b:V}{a' b':Value}(ra:dF E a a')(rb:dF E b b')(e:yg kd a b=some true):(Instr.keyThatStays b' a').run P w= .ok a' w:=by
 have:Instr.sameBits 10000 b' a'=true:=by
  unfold yg at e;split at e
  . simp only[dF]at ra rb;subst ra;subst rb;split at e
    . rename_i hk;simp only[an,beq_iff_eq]at e;simp[Instr.sameBits,hk,e]
    . cases e
  . simp only[dF]at ra rb;subst ra;subst rb;simp only[an]at e;simp only[Instr.sameBits];rw[ga]at e;have hab:_=_:=eq_of_beq e;subst hab;rw[rQ,ga];simp
  . cases e
 simp[Instr.keyThatStays,this]
section
variable{eE:Array TypeId}{t ty:TypeId}{m k:V}{m' k':Value}{r:R}
theorem yL{v:V}{m' k' v':Value}{r:R}(g:Good E h w)(rm:dF E m m')(rk:dF E k k')(rv:dF E v v')(e:sQ P t h n m k v=some r):
  kf P E h n w (do Instr.mapUpdate t m' k' v';pure .skip) r:=by
 unfold sQ at e;split at e
 . rename_i kt et m hu;split at e
   . rename_i kd es eo hk hm;obtain⟨b,fW,hi,hb,DX⟩:=yI g hm;obtain⟨b',kD,rfl⟩:=rm;rw[hi]at kD;cases kD;have uc:=fc (P:=P) hb (by intro _ _ _ q;cases q);have xq:∀o',(setObj b o').run P w= .ok () { w with heap:=w.heap.setIfInBounds b o' }:=fun o'=>mO (P:=P) hb (by intro _ _ _ q;cases q);split at e
     . rename_i hq;obtain⟨Ms,gH⟩:=hq;have Ia:=jh (P:=P) (w:=w) (b:=false) hk rk Ms;cases hf:uA kd k es 0 with
       |none=>simp[hf]at e
       |some q=>
        have hr:=vU rk es fW.toList 0 q DX hf;cases q with
        |none=>
         simp only[hf,an]at e;subst e;have Kj:=yJ (clock':=eo+1) (tU:=es++[(k,v,eo)]) (Bt:=fW.push { key:=k',val:=v',born:=eo }) g gH hm hi hb (by
          rw[Array.toList_push];exact xp es fW.toList (k,v,eo) { key:=k',val:=v',born:=eo } DX rk rv rfl)
         refine⟨E,_,undef,.inr ⟨?_,rfl⟩,⟨[],rfl,rfl⟩,Kj,fun _ _=>rfl,.inl ⟨rfl,rfl⟩⟩;simp only[Instr.mapUpdate,Sem.run_bind,dr hu,Result.andThen_ok,uc,Ia,gB hk hr,xq,Sem.run_pure]
        |some q=>
         obtain⟨j,e0⟩:=q;simp only[hf,an]at e;subst e;obtain⟨e',a1,a2,a3,a4,a5,a6,a7,a8⟩:=hr;simp only[Nat.sub_zero]at a2 a3;have Kn:((fW[j]?).map (·.key)).getD k'=e'.key:=by rw[<- bK,a3];rfl
         have z6:=Cr (P:=P) (w:=w) rk a5 a4;have Kj:=yJ (clock':=eo) (tU:=sP es j fun e=>(k,v,e.2.2)) (Bt:=fW.modify j fun e=>{ e with key:=k',val:=v' }) g gH hm hi hb (by
          rw[Array.toList_modify];exact pO (f:=fun e=>(k,v,e.2.2)) (f':=fun e=>{ e with key:=k',val:=v' }) (fun x y p q s=>⟨rk,rv,s⟩) es fW.toList j DX)
         refine⟨E,_,undef,.inr ⟨?_,rfl⟩,⟨[],rfl,rfl⟩,Kj,fun _ _=>rfl,.inl ⟨rfl,rfl⟩⟩;simp only[Instr.mapUpdate,Sem.run_bind,dr hu,Result.andThen_ok,uc,Ia,gB hk a8,Kn,z6,xq,Sem.run_pure]
     . cases e
   . rename_i kd kk es hk hm;split at e
     . rename_i kq vq Kl hvq;split at e
       . rename_i hb;simp only[aC,bC]at hb;obtain⟨hd,EH,gH⟩:=hb;obtain rfl:=ew e;obtain⟨b,fW,eo,hi,wG,hr⟩:=uP g hm;obtain⟨b',kD,rfl⟩:=rm;rw[hi]at kD;cases kD;have uc:=fc (P:=P) wG (by intro _ _ _ q;cases q);have xq:∀o',(setObj b o').run P w= .ok () { w with heap:=w.heap.setIfInBounds b o' }:=fun o'=>mO (P:=P) wG (by intro _ _ _ q;cases q);have Ms:=Cq Kl hd EH;have Ia:=jh (P:=P) (w:=w) (b:=false) hk rk Ms;rcases hr.qo hd EH (vT Kl rk) (F1 hvq rv).1 with⟨q1,q2⟩|⟨j,e',q1,q2,q3,q4⟩
         . refine⟨E,_,undef,.inr ⟨?_,rfl⟩,⟨[],rfl,rfl⟩,yK g gH hm hi wG q2,fun _ _=>rfl,.inl ⟨rfl,rfl⟩⟩;simp only[Instr.mapUpdate,Sem.run_bind,dr hu,Result.andThen_ok,uc,Ia,gB hk q1,xq,Sem.run_pure]
         . have Kn:((fW[j]?).map (·.key)).getD k'=e'.key:=by rw[q2];rfl
           have z6:(Instr.keyThatStays e'.key k').run P w= .ok k' w:=by
            have r1:=vT Kl rk;have:e'.key=k':=by
             cases kq<;>first|(simp only[kO]at q3 r1;rw[q3,r1])|(unfold keyOf at Kl;split at Kl<;>cases Kl)
            rw[this];refine Cr rk rk (kd:=kd) ?_;have aqq:=(jn EH EH).2 rfl;unfold keyOf at Kl;split at Kl<;>first|cases Kl|skip
            . cases kd<;>cases kk<;>simp only[mE,gD,aO]at hd EH;simp[yg]
            . cases kd<;>cases kk<;>simp only[mE,gD,aO]at hd EH;simp only[yg,ga];simp
           refine⟨E,_,undef,.inr ⟨?_,rfl⟩,⟨[],rfl,rfl⟩,yK g gH hm hi wG q4,fun _ _=>rfl,.inl ⟨rfl,rfl⟩⟩;simp only[Instr.mapUpdate,Sem.run_bind,dr hu,Result.andThen_ok,uc,Ia,gB hk q1,Kn,z6,xq,Sem.run_pure]
       . cases e
     . cases e
   . cases e
 . cases e
theorem N0{args:ag}{c9:List Value}{r:R}(g:Good E h w)(ra:dI E args c9)(ha:eE.size=2)(e:FX P eE args h n=some r):
  kf P E h n w (do pure (.value (<- Builtin.delete_ eE ty c9.toArray))) r:=by
 unfold FX at e;split at e
 . rename_i t m k h1;obtain⟨m',_,rm,⟨k',_,rk,qm,rfl⟩,rfl⟩:=ra;simp only[dI]at qm;subst qm;split at e
   . rename_i kt et hu;split at e
     . rename_i kd kk es kq hk hm Kl;split at e
       . rename_i hb;simp only[aC,bC]at hb;obtain⟨hd,EH,gH⟩:=hb;obtain rfl:=ew e;obtain⟨b,fW,eo,hi,wG,hr⟩:=uP g hm;obtain⟨b',kD,rfl⟩:=rm;rw[hi]at kD;cases kD;have uc:=fc (P:=P) wG (by intro _ _ _ q;cases q);have xq:∀o',(setObj b o').run P w= .ok () { w with heap:=w.heap.setIfInBounds b o' }:=fun o'=>mO (P:=P) wG (by intro _ _ _ q;cases q);have Ms:=Cq Kl hd EH;have Ia:=jh (P:=P) (w:=w) (b:=fW.isEmpty) hk rk Ms;rcases hr.del hd EH (vT Kl rk)with⟨q1,q2⟩|⟨j,e',q1,q2⟩
         . refine⟨E,_,.tuple #[],.inl ?_,⟨[],rfl,rfl⟩,yK g gH hm hi wG q2,fun _ _=>rfl,.inl ⟨rfl,rfl⟩⟩;simp[Builtin.delete_,h1,dr hu,uc,Ia,gB hk q1,xq]
         . refine⟨E,_,.tuple #[],.inl ?_,⟨[],rfl,rfl⟩,yK g gH hm hi wG q2,fun _ _=>rfl,.inl ⟨rfl,rfl⟩⟩;simp[Builtin.delete_,h1,dr hu,uc,Ia,gB hk q1,xq]
       . cases e
     . cases e
   . cases e
 . cases e
theorem Ib(g:Good E h w)(rm:dF E m m')(rk:dF E k k')(e:zO P t h n m k=some r):
  kf P E h n w (do pure (.value (<- Instr.mapEntry t m' k'))) r:=by
 unfold zO at e;split at e
 . rename_i kt et m hu;split at e
   . rename_i kd es eo z hk hm hz;obtain⟨b,fW,hi,hb,DX⟩:=yI g hm;obtain⟨b',kD,rfl⟩:=rm;rw[hi]at kD;cases kD;have uc:=fc (P:=P) hb (by intro _ _ _ q;cases q);have xq:∀o',(setObj b o').run P w= .ok () { w with heap:=w.heap.setIfInBounds b o' }:=fun o'=>mO (P:=P) hb (by intro _ _ _ q;cases q);obtain⟨z',Pt,NQ,_⟩:=me (w:=w) E hz;split at e
     . rename_i hq;obtain⟨Ms,gH⟩:=hq;have Ia:=jh (P:=P) (w:=w) (b:=false) hk rk Ms;cases hf:uA kd k es 0 with
       |none=>simp[hf]at e
       |some q=>
        have hr:=vU rk es fW.toList 0 q DX hf;cases q with
        |none=>
         simp only[hf,an]at e;subst e;have Kj:=yJ (clock':=eo+1) (tU:=es++[(k,z,eo)]) (Bt:=fW.push { key:=k',val:=z',born:=eo }) g gH hm hi hb (by
          rw[Array.toList_push];exact xp es fW.toList (k,z,eo) { key:=k',val:=z',born:=eo } DX rk NQ rfl)
         refine⟨E,_,.tuple #[z',.int .i64 eo],.inl ?_,⟨[z',.int .i64 eo],⟨z',_,NQ,⟨.int .i64 eo,[],rfl,rfl,rfl⟩,rfl⟩,rfl⟩,Kj,fun _ _=>rfl,.inl ⟨rfl,rfl⟩⟩;simp only[Instr.mapEntry,Sem.run_bind,dr hu,Result.andThen_ok,uc,Ia,gB hk hr,Pt,xq,Sem.run_pure,goInt]
        |some q=>
         obtain⟨j,e0⟩:=q;simp only[hf,an]at e;subst e;obtain⟨e',a1,a2,a3,a4,a5,a6,a7,a8⟩:=hr;simp only[Nat.sub_zero]at a2 a3;have Kn:((fW[j]?).map (·.key)).getD k'=e'.key:=by rw[<- bK,a3];rfl
         have Mr:(Option.map (fun x=>(x.born:Int)) fW[j]?).getD 0=(e0.2.2:Int):=by rw[<- bK,a3];exact aN _ a7
         have z6:=Cr (P:=P) (w:=w) rk a5 a4;have Kj:=yJ (clock':=eo) (tU:=sP es j fun e=>(k,e.2.1,e.2.2)) (Bt:=fW.modify j fun e=>{ e with key:=k' }) g gH hm hi hb (by
          rw[Array.toList_modify];exact pO (f:=fun e=>(k,e.2.1,e.2.2)) (f':=fun e=>{ e with key:=k' }) (fun x y p q s=>⟨rk,q,s⟩) es fW.toList j DX)
         refine⟨E,_,.tuple #[e'.val,.int .i64 e0.2.2],.inl ?_,⟨[e'.val,.int .i64 e0.2.2],⟨e'.val,_,a6,⟨.int .i64 e0.2.2,[],rfl,rfl,rfl⟩,rfl⟩,rfl⟩,Kj,fun _ _=>rfl,.inl ⟨rfl,rfl⟩⟩;simp only[Instr.mapEntry,Sem.run_bind,dr hu,Result.andThen_ok,uc,Ia,gB hk a8,Kn,Mr,z6,xq,Sem.run_pure,goInt]
     . cases e
   . cases e
 . cases e
theorem Gd{m o l cP z:Nat}{c9:List Value}(g:Good E h w)(ra:dI E [.di (some (m,o)) l cP z] c9)(hc:0<cP):
  kf P E h n w (do pure (.value (<- Builtin.unsafeSliceData_ eE ty c9.toArray))) (.val (.ptr (some (m,o))) h n):=by
 obtain⟨x',_,⟨b,s,o',gj,h1,h2,h3,h4,h5,rfl⟩,qm,rfl⟩:=ra;simp only[dI]at qm;subst qm;have:=h2 hc;subst this;refine dU g (v':=.pointer (some ⟨b,s+o,none⟩)) ?_ ⟨b,s,h1,rfl⟩;rw[Sem.run_bind,Lib.run_unsafeSliceData_row w eE ty ⟨b,s+o,none⟩ l gj be];rfl
theorem Bu{pt e:TypeId}{m:Nat}{l:Int}{AL:Bool}{t:aa}{c9:List Value}(g:Good E h w)(ra:dI E [.ptr (some (m,0)),.int .i64 l] c9)(ha0:eE[0]? =some pt)(ha:eE.size=2)(hp:P.underlying pt=some (.pointer e))
  (hm:h.get m=some (.iX e AL t)) (hl:l=t.length) (h0:0<t.length) (hce:P.cellsOf e=1) (gH:m<fN) (h63:t.length<=xe):
  kf P E h n w (do pure (.value (<- Builtin.unsafeString_ eE ty c9.toArray))) (.val (.str t) (h.set m (some (.iX e true t))) n):=by
 obtain⟨x',_,⟨b,s,h1,rfl⟩,⟨y',_,r2,qm,rfl⟩,rfl⟩:=ra;simp only[dI]at qm;subst qm;simp only[dF]at r2;subst r2;obtain⟨b',s',mB,c,fz,xs,wG,hs,lQ,⟨BD,Ki⟩,Cm,mh⟩:=g.rel m _ hm;rw[h1]at mB;cases mB;subst hs;have TT:xs.length=t.length:=by rw[<- Cm];simp[eN]
 have oV:t.length<=c.size:=by
  have h2:=mh (t.length-1) (xs[t.length-1]'(by omega)) (ay be);have:=(aQ.1 h2).1;omega
 have iY:eE=#[pt,eE[1]'(by omega)]:=by
  apply Array.ext
  . simpa using ha
  . intro i q1 q2;have:i=0\/i=1:=by simp at q2;omega
    rcases this with rfl|rfl
    . rw[bk q1]at ha0;simpa using ha0
    . rfl
 have hlb:∀(l:List Int) (k:Nat) (gq:ByteArray),(∀(j:Nat) (x:Int),l[j]? =some x->c[k+j]? =some (.int .u8 x))->(loadBytes ⟨b,k,none⟩ gq l.length).run P w= .ok ⟨gq.data++(eN l).toArray⟩ w:=by
  intro l
  induction l with
  |nil=>intro k gq _;simp[loadBytes,eN]
  |cons x l ih=>
   intro k gq hh;have e0:=hh 0 x rfl;simp only[aT,loadBytes,Sem.run_bind,run_load,Addr.ja];rw[show(⟨b,k,none⟩:Addr)=⟨b,k+0,none⟩from rfl,nf wG,e0];simp only[Result.andThen_ok];rw[ih (k+0+1) _ (fun j y hy=>by have:=hh (j+1) y (by simpa using hy);rw[<- this];congr 1;omega)];congr 1;simp[eN,ByteArray.push]
 have adD:=hlb xs 0 .empty (fun j x hx=>by rw[bE];exact mh j x hx);rw[TT,Cm]at adD;have Y3:w.shape? b=some (e,c.size):=by simp[World.shape?,wG]
 have adE:=Lib.liesAt_bytes (P:=P) hce (c.size/P.cellsOf e) t.length (by rw[hce];simpa using oV);have vR:t.length≠0:=by omega
 have ajp:¬(9223372036854775807:Int)<(t.length:Int):=by unfold xe at h63;omega
 have ajq:IntKind.i64.max=9223372036854775807:=rfl;have ajr:¬(t.length:Int)<0:=by omega
 have hun:=hp;have fM:(Builtin.unsafeString_ eE ty #[.pointer (some ⟨b,0,none⟩),.int .i64 t.length]).run P w= .ok (.string ⟨t.toArray⟩) (w.freeze ⟨b,0,none⟩ t.length):=by
  rw[iY];have ajs:Builtin.unsafeString_ #[pt,eE[1]'(by omega)] ty #[.pointer (some ⟨b,0,none⟩),.int .i64 t.length]=
   (do
    let n <- asInt (.int .i64 t.length)
    if n<0 then runtimePanic (.error "unsafe.String: len out of range")
    if n>IntKind.i64.max then unsupported (.unsafePointer "String: a length above the largest int")
    if n=0 then pure (.string .empty)
    else if <- variablesAt ⟨b,0,none⟩ (<- elemOf pt) n.toNat then do
     let s <- loadBytes ⟨b,0,none⟩ .empty n.toNat
     freeze ⟨b,0,none⟩ n.toNat
     pure (.string s)
    else unsupported (.unsafePointer "String: not so many bytes at ptr")):=rfl
  rw[ajs];simp[asInt,asIntOf,ajq,ajp,ajr,vR,variablesAt,Y3,elemOf,dr hp,adE,adD]
  done
 have h00:(0:Nat)+0=0:=rfl;refine⟨E,w.freeze ⟨b,0,none⟩ t.length,.string ⟨t.toArray⟩,.inl ?_,rfl,?_,fun _ _=>rfl,.inl ⟨rfl,rfl⟩⟩
 . rw[Sem.run_bind,h00,hl];rw[fM];rfl
 . have F4:eC h m:=⟨_,hm,rfl⟩;have hbs:b<w.heap.size:=(aQ.1 wG).1;refine iy.write g gH F4 h1 (by unfold World.freeze;rw[aI vR];simp) (by unfold World.freeze;rw[aI vR]) (by unfold World.freeze;rw[aI vR]) (by unfold World.freeze;rw[aI vR]) (fun x hx=>by unfold World.freeze;rw[aI vR];simp only[cm];rw[aI (Ne.symm hx)]) ?_;refine⟨c,(if fz.1==fz.2 then(0,0+t.length)else(min fz.1 0,max fz.2 (0+t.length))),xs,by unfold World.freeze;rw[aI vR];simp[cm,wG],rfl,lQ,⟨.inr ?_,fun q=>by simp at q⟩,Cm,mh⟩;split
   . simp
   . rename_i q;have:¬fz.1=fz.2:=by simpa using q
     simp only[bE];omega
end
theorem Cs{b:Int}:∀(xs:List (V×V×Nat)) (ys:List MapEntry) (i j:Nat),kG E xs ys->zP b xs i=some j->i<=j/\ys.findIdx? (fun e=>(e.born:Int)==b)=some (j-i)
 | [],_,i,j,r,e=>by simp[zP]at e
 |x::xs,_,i,j,r,e=>by
  obtain⟨y,ys,_,_,c,rs,rfl⟩:=r;simp only[zP]at e;split at e
  . rename_i hb;obtain rfl:=ew e;refine⟨aA _,?_⟩;rw[List.findIdx?_cons,aG (by rw[c];exact hb)];simp
  . rename_i hb;obtain⟨h1,h2⟩:=Cs xs ys (i+1) j rs e;refine⟨be,?_⟩;rw[List.findIdx?_cons,aI (by rw[c];exact hb),h2];simp;omega
section
variable{t:TypeId}{h':Tr O}{x:V}{n':Nat}{x':Value}{r:R}
theorem Eb{m s v:V}{m' s' v':Value}{r:R}(g:Good E h w)(rm:dF E m m')(rs:dF E s s')(rv:dF E v v')(e:uB h n m s v=some r):
  kf P E h n w (do Instr.entryStore t m' s' v';pure .skip) r:=by
 unfold uB at e;split at e
 . rename_i m k b0;simp only[dF]at rs;subst rs;split at e
   . rename_i es eo hm;obtain⟨b,fW,hi,hb,DX⟩:=yI g hm;obtain⟨b',kD,rfl⟩:=rm;rw[hi]at kD;cases kD;have uc:=fc (P:=P) hb (by intro _ _ _ q;cases q);have xq:∀o',(setObj b o').run P w= .ok () { w with heap:=w.heap.setIfInBounds b o' }:=fun o'=>mO (P:=P) hb (by intro _ _ _ q;cases q);split at e
     . rename_i gH;cases hf:zP b0 es 0 with
       |none=>simp[hf]at e
       |some j=>
        simp only[hf,an]at e;subst e;obtain⟨_,h2⟩:=Cs es fW.toList 0 j DX hf;have h3:fW.findIdx? (fun e=>(e.born:Int)==b0)=some j:=by
         have q:=List.findIdx?_toArray (fun(e:MapEntry)=>(e.born:Int)==b0) fW.toList;rw[Array.toArray_toList]at q;rw[q];simpa using h2
        have Kj:=yJ (clock':=eo) (tU:=sP es j fun e=>(e.1,v,e.2.2)) (Bt:=fW.modify j fun e=>{ e with val:=v' }) g gH hm hi hb (by
         rw[Array.toList_modify];exact pO (f:=fun e=>(e.1,v,e.2.2)) (f':=fun e=>{ e with val:=v' }) (fun x y p q s=>⟨p,rv,s⟩) es fW.toList j DX)
        refine⟨E,_,undef,.inr ⟨?_,rfl⟩,⟨[],rfl,rfl⟩,Kj,fun _ _=>rfl,.inl ⟨rfl,rfl⟩⟩;simp only[Instr.entryStore,Sem.run_bind,uc,Result.andThen_ok,asInt,asIntOf,Sem.run_pure,h3,xq]
     . cases e
   . cases e
 . cases e
theorem AT{s:Sem Next}{o:O}{ob:Obj}{v:V}{v':Value}(g:Good E h w)(hn:E.ι n=none)(e:newObj h n o=some (h',n'))
  (ho:∀E1 w1,w1.heap[w.heap.size]? =some ob->lY E1 w1 w.heap.size 0 o) (hr:s.run P w= .ok (.value v') (w.alloc ob)) (hv:dF (E.put n w.heap.size 0 (jS ob)) v v'):kf P E h n w s (.val v h' n'):=by
 obtain⟨gH,rfl,rfl⟩:=kK e;exact⟨_,_,v',.inl hr,hv,iy.alloc g hn gH (ho _ _ heap_alloc_new),fun m hm=>Env.fB hm,.inr rfl⟩
theorem Ko(g:Good E h w)(hn:E.ι n=none)(e:newObj h n (.map [] 0)=some (h',n')):
  kf P E h n w (do pure (.value (<- Instr.makeMap t none))) (.val (.map (some n)) h' n'):=by
 refine AT (ob:=.map #[] 0) (v':=.map (some w.heap.size)) g hn e (fun E1 w1 q=>⟨rfl,#[],q,by simp[kG]⟩) ?_ ⟨w.heap.size,Env.eY,rfl⟩;simp[Instr.makeMap]
theorem Qd(g:Good E h w)(hn:E.ι n=none)(rx:dF E x x')(e:B8 P t x h n=some r):
  kf P E h n w (do pure (.value (<- Instr.range t x'))) r:=by
 unfold B8 at e;split at e
 . rename_i s hu;simp only[dF]at rx;subst rx;cases ho:newObj h n (.nE s 0)with
   |none=>simp[ho]at e
   |some p=>
    obtain⟨h',n'⟩:=p;simp only[ho,an]at e;subst e;refine AT (ob:=.stringIter ⟨s.toArray⟩ 0) (v':=.pointer (some ⟨w.heap.size,0,none⟩)) g hn ho (fun E1 w1 q=>⟨rfl,q⟩) ?_ ⟨w.heap.size,0,Env.eY,by simp⟩;simp[Instr.range,dr hu]
 . cases e
theorem Uo{b:Bool}{t:TypeId}{x':Value}{r:R}(g:Good E h w)(rx:dF E x x')(e:PF x b h n=some r):
  kf P E h n w (do pure (.value (<- Instr.next x' b t))) r:=by
 unfold PF at e;split at e
 . rename_i m;obtain⟨b0,s0,hi,rfl⟩:=rx;split at e
   . rename_i s pos hm;obtain⟨b1,s1,Zb,fQ,hb⟩:=g.rel m _ hm;rw[hi]at Zb;cases Zb;subst fQ;have uc:=fc (P:=P) hb (by intro _ _ _ q;cases q);have xq:∀o',(setObj b0 o').run P w= .ok () { w with heap:=w.heap.setIfInBounds b0 o' }:=fun o'=>mO (P:=P) hb (by intro _ _ _ q;cases q);have fJ:b0<w.heap.size:=(aQ.1 hb).1;have lQ:(⟨s.toArray⟩:ByteArray).size=s.length:=by show s.toArray.size=_;simp
     split at e
     . rename_i hp;simp only at e;split at e
       . rename_i gH;obtain rfl:=ew e;have Kj:iy E h w E (h.set m (some (.nE s (pos+(Utf8.decode ⟨s.toArray⟩ pos).2)))) { w with heap:=w.heap.setIfInBounds b0 (.stringIter ⟨s.toArray⟩ (pos+(Utf8.decode ⟨s.toArray⟩ pos).2)) }:=by
          refine iy.write g gH ⟨_,hm,rfl⟩ hi (by simp) rfl rfl rfl (fun x hx=>?_) ⟨rfl,?_⟩
          . simp[Ne.symm hx]
          . simp[fJ]
         refine⟨E,_,.tuple #[.bool true,.int .i64 pos,.int .i32 (Utf8.decode ⟨s.toArray⟩ pos).1],.inl ?_,⟨[.bool true,.int .i64 pos,.int .i32 (Utf8.decode ⟨s.toArray⟩ pos).1],⟨_,_,rfl,⟨_,_,rfl,⟨_,_,rfl,rfl,rfl⟩,rfl⟩,rfl⟩,rfl⟩,Kj,fun _ _=>rfl,.inl ⟨rfl,rfl⟩⟩;simp[Instr.next,uc,lQ,hp,xq,goInt]
       . cases e
     . rename_i hp;obtain rfl:=ew e;refine dU g (v':=.tuple #[.bool false]) ?_ ⟨[.bool false],⟨_,_,rfl,rfl,rfl⟩,rfl⟩;simp[Instr.next,uc,lQ,hp]
   . cases e
 . cases e
end
end
section
variable{P:Program}{E:Env}{h:Tr O}{n:Nat}{w:World}{fr:Tr V}{ρ:Operand->Value}
def mI(E:Env)(fr:Tr V)(ρ:Operand->Value)(x:Operand):Prop:=∀v,iK fr x=some v->dF E v (ρ x)
theorem uQ:∀(xs:List Operand) (vs:ag),(∀x∈xs,mI E fr ρ x)->uF fr xs=some vs->dI E vs (xs.map ρ)
 | [],vs,_,e=>by simp only[uF,an]at e;subst e;rfl
 |x::xs,vs,hr,e=>by
  simp only[uF]at e;cases h1:iK fr x with
  |none=>simp[h1]at e
  |some v=>cases h2:uF fr xs with
   |none=>simp[h1,h2]at e
   |some r=>
    simp only[h1,h2,an]at e;subst e;exact⟨ρ x,xs.map ρ,hr x (by simp) v h1,uQ xs r (fun y hy=>hr y (by simp[hy])) h2,rfl⟩
theorem td:∀(xs:List (Nat×Operand)) (vs:List (Nat×V)),(∀x∈xs.map (·.2),mI E fr ρ x)->qg fr xs=some vs->AP E vs (xs.map fun x=>(x.1,ρ x.2))
 | [],vs,_,e=>by simp only[qg,an]at e;subst e;rfl
 |(i,x)::xs,vs,hr,e=>by
  simp only[qg]at e;cases h1:iK fr x with
  |none=>simp[h1]at e
  |some v=>cases h2:qg fr xs with
   |none=>simp[h1,h2]at e
   |some r=>
    simp only[h1,h2,an]at e;subst e;exact⟨(i,ρ x),_,rfl,hr x (by simp) v h1,td xs r (fun y hy=>hr y (by simp at hy ⊢;exact .inr hy)) h2,rfl⟩
theorem xu{x:Option Operand}{v:Option V}(hr:∀y,x=some y->mI E fr ρ y)(e:mF fr x=some v):nY E v (x.map ρ):=by
 cases x with
 |none=>simp only[mF,an]at e;subst e;rfl
 |some x=>
  simp only[mF]at e;cases h1:iK fr x with
  |none=>simp[h1]at e
  |some y=>simp only[h1,an]at e;subst e;exact⟨ρ x,hr x rfl y h1,rfl⟩
theorem fT{v:Option V}{r:R}(e:mS h n v=some r):∃x,v=some x/\r= .val x h n:=by
 cases v with
 |none=>simp[mS]at e
 |some x=>simp only[mS,an]at e;exact⟨x,rfl,e.symm⟩
theorem pP{f:FuncId}{args:Array Value}(hc:callee P f=true):(callFunc f args).run P w= .ok (.enter f args) w:=by
 unfold callee at hc;split at hc
 . rename_i fn hf;simp only[aC,bne_iff_ne,ne_eq]at hc;obtain⟨h1,h2⟩:=hc;have h3:fn.body.isNone=false:=by cases hb:fn.body<;>simp_all
   have h4:(fn.name == "runtime.NumGoroutine")=false:=by simpa using h2
   simp only[callFunc,Sem.run_bind,run_program,Result.andThen_ok,hf,h4,h3,aO,cG];rfl
 . cases hc
theorem Kp{c:Call}{ty:TypeId}{r:R}(g:Good E h w)(hn:E.ι n=none)(hr:∀x∈c.operands,mI E fr ρ x)(e:wN P fr c h n=some r):
  kf P E h n w (do let d <- resolve ρ c ty;invoke d.target d.args) r:=by
 unfold wN at e;split at e
 . rename_i args ha;have nG:=uQ (E:=E) (ρ:=ρ) c.args.toList args (fun x hx=>hr x (by simp[Call.operands];exact .inr (by simpa using hx))) ha;have Ge:c.args.map ρ=(c.args.toList.map ρ).toArray:=by apply Array.ext';simp
   split at e
   . rename_i b hc;unfold lp at e;split at e
     . split at e
       . rename_i h2;have:=NU (P:=P) (ty:=ty) g hn nG e h2;simpa[resolve,hc,invoke,builtin,Ge]using this
       . cases e
     . obtain⟨v,h1,rfl⟩:=fT e;have:=Y8 (P:=P) (n:=n) (ty:=ty) g nG h1;simpa[resolve,hc,invoke,builtin,Ge]using this
     . split at e
       . obtain⟨v,h1,rfl⟩:=fT e;have:=Y9 (P:=P) (n:=n) (eE:=c.argTypes) (ty:=ty) g nG h1;simpa[resolve,hc,invoke,builtin,Ge]using this
       . cases e
     . split at e
       . obtain⟨v,h1,rfl⟩:=fT e;have:=Za (P:=P) (n:=n) (eE:=c.argTypes) (ty:=ty) g nG h1;simpa[resolve,hc,invoke,builtin,Ge]using this
       . cases e
     . split at e
       . rename_i t v;obtain rfl:=ew e;obtain⟨x',_,⟨y,ry,rfl⟩,qm,hl⟩:=nG;simp only[dI]at qm;subst qm;have h0:(c.args.map ρ).getD 0 .nilIface= .iface t y:=by rw[Ge,hl];rfl
         refine⟨.iface t y,?_,y,ry,rfl⟩;simp only[resolve,hc,pure_bind,invoke,builtin];rw[h0];rfl
       . cases e
     . obtain rfl:=ew e;show _=_;simp[resolve,hc,invoke,builtin]
     . split at e
       . split at e
         . rename_i rR;obtain rfl:=ew e;have:=Gd (P:=P) (n:=n) (eE:=c.argTypes) (ty:=ty) g nG rR;simpa[resolve,hc,invoke,builtin,Ge]using this
         . cases e
       . cases e
     . split at e
       . rename_i pt m l ha0;split at e
         . rename_i e0 el AL s hp hm;split at e
           . rename_i hq;obtain⟨⟨q1,q2⟩,⟨rfl,q3⟩,q4,q5,q6⟩:=hq;obtain rfl:=ew e;have:=Bu (P:=P) (n:=n) (eE:=c.argTypes) (ty:=ty) g nG ha0 q5 hp hm q1 q2 q3 q4 q6;simpa[resolve,hc,invoke,builtin,Ge]using this
           . cases e
         . cases e
       . cases e
     . split at e
       . rename_i h2;have:=N0 (P:=P) (ty:=ty) g nG h2 e;simpa[resolve,hc,invoke,builtin,Ge]using this
       . cases e
     . cases e
   . cases e
   . rename_i f hc;split at e
     . rename_i gf first captured hf
       split at e
       . rename_i uR;obtain rfl:=ew e;obtain⟨f',fi,ca,N1,r1,r2,hfe⟩:=hr f (by simp[Call.operands,hc]) _ hf;simp only[yl]at N1;subst N1;refine⟨fi++c.args.toList.map ρ++ca,iB (iB r1 nG) r2,.inl ⟨?_,uR⟩⟩;have oB:=pP (w:=w) (args:=(fi++c.args.toList.map ρ++ca).toArray) uR;simp only[resolve,hc,hfe,Deferred.ofValue,pure_bind,invoke];rw[<- oB];congr 2;apply Array.ext';simp
       . cases e
     . rename_i m hf;obtain⟨f',fi,ca,⟨l,s,jb,N1⟩,r1,r2,hfe⟩:=hr f (by simp[Call.operands,hc]) _ hf;subst N1;simp only[dI]at r1 r2;subst r1;subst r2;split at e
       . split at e
         . obtain rfl:=ew e;refine⟨c.args.toList.map ρ,nG,.inr ⟨m,l,s,rfl,jb,?_⟩⟩;simp only[resolve,hc,hfe,Deferred.ofValue,pure_bind,invoke,Ge];simp
         . cases e
       . cases e
     . cases e
 . cases e
theorem Ic{c:Call}{ty:TypeId}{r:R}(hr:∀x∈c.operands,mI E fr ρ x)(e:B9 fr c=some r):
  kf P E h n w (do pure (.defer (<- resolve ρ c ty))) r:=by
 unfold B9 at e;split at e
 . rename_i args ha;have nG:=uQ (E:=E) (ρ:=ρ) c.args.toList args (fun x hx=>hr x (by simp[Call.operands];exact .inr (by simpa using hx))) ha;split at e
   . rename_i f hc;split at e
     . rename_i gf first captured hf
       obtain rfl:=ew e;obtain⟨f',fi,ca,N1,r1,r2,hfe⟩:=hr f (by simp[Call.operands,hc]) _ hf;simp only[yl]at N1;subst N1;refine⟨ca,fi++c.args.toList.map ρ,?_,r2,iB r1 nG⟩;simp only[resolve,hc,hfe,Deferred.ofValue,pure_bind];show Result.ok _ w=_;congr 3;apply Array.ext';simp
     . cases e
   . cases e
 . cases e
set_option maxHeartbeats 1000000 in
theorem mJ{o:Oper}{r:R}(g:Good E h w)(hn:E.ι n=none)(hr:∀x∈o.op.operands,mI E fr ρ x)(e:dD P o fr h n=some r):kf P E h n w (execOp ρ o) r:=by
 obtain⟨dst,op,ty,pos,after,guard⟩:=o;simp only at hr;cases op<;>simp only[dD]at e<;>simp only[Op.operands]at hr<;>simp only[execOp]
 case move x=>
  obtain⟨v,h1,rfl⟩:=fT e;exact dU g rfl (hr x (by simp) v h1)
 case assign x=>
  obtain⟨v,h1,rfl⟩:=fT e;exact dU g rfl (hr x (by simp) v h1)
 case pick c x y=>
  split at e
  . rename_i hc;obtain⟨v,h1,rfl⟩:=fT e;have rc:=hr c (by simp) _ hc;simp only[dF]at rc;exact dU g (by simp[rc,asBool]) (hr x (by simp) v h1)
  . rename_i hc;obtain⟨v,h1,rfl⟩:=fT e;have rc:=hr c (by simp) _ hc;simp only[dF]at rc;exact dU g (by simp[rc,asBool]) (hr y (by simp) v h1)
  . cases e
 case alloc t=>
  split at e
  . rename_i z hz;split at e
    . rename_i h' n' ho;obtain rfl:=ew e;exact PT g hn hz ho
    . cases e
  . cases e
 case box t x=>
  split at e
  . rename_i v hv;split at e
    . rename_i h' n' ho;obtain rfl:=ew e;exact YY g hn (hr x (by simp) v hv) ho
    . cases e
  . cases e
 case build t parts=>
  split at e
  . rename_i ps HA;obtain⟨v,h1,rfl⟩:=fT e;have hp:=td (E:=E) (ρ:=ρ) parts.toList ps (fun x hx=>hr x (by simpa using hx)) HA;have hq:AP E ps (parts.map fun(i,x)=>(i,ρ x)).toList:=by simpa using hp
    obtain⟨v',q1,q2⟩:=NO (P:=P) (w:=w) hq h1;refine dU g (v':=v') ?_ q2;simp only[Sem.run_bind,q1,Result.andThen_ok,Sem.run_pure]
  . cases e
 case buildSlice t cO parts=>
  split at e
  . rename_i ps HA;have hp:=td (E:=E) (ρ:=ρ) parts.toList ps (fun x hx=>hr x (by simpa using hx)) HA;have hq:AP E ps (parts.map fun(i,x)=>(i,ρ x)).toList:=by simpa using hp
    have:=D6 (P:=P) (w:=w) (t:=t) (cO:=cO) g hn hq e;exact this
  . cases e
 case load t x=>
  split at e
  . rename_i v hv;obtain⟨u,h1,rfl⟩:=fT e;exact Ud g (hr x (by simp) v hv) h1
  . cases e
 case store t x y=>
  split at e
  . rename_i a v ha hv;split at e
    . rename_i h' hs;obtain rfl:=ew e;exact PV g (hr x (by simp) a ha) (hr y (by simp) v hv) hs
    . cases e
  . cases e
 case nilCheck x=>
  split at e
  . rename_i p hv;obtain rfl:=ew e;have hx:=hr x (by simp) _ hv;obtain⟨b,s,q1,q2⟩:=hx;rw[q2];exact dU g (v':=.pointer (some ⟨b,s+p.2,none⟩)) rfl ⟨b,s,q1,rfl⟩
  . rename_i cs hv;obtain rfl:=ew e;have hx:=hr x (by simp) _ hv;obtain⟨b,o,c,vs,q1,q2⟩:=hx;rw[q1];exact dU g (v':=.pointer (some ⟨b,o,none⟩)) rfl ⟨b,o,c,vs,rfl,q2⟩
  . rename_i f a c hv;obtain rfl:=ew e;have hx:=hr x (by simp) _ hv;obtain⟨f',a',c',q0,q1,q2,q3⟩:=hx;simp only[yl]at q0;subst q0;rw[q3];exact dU g (v':=.func (.func f) a'.toArray c'.toArray) rfl ⟨_,a',c',rfl,q1,q2,rfl⟩
  . rename_i t v hv;obtain rfl:=ew e;have hx:=hr x (by simp) _ hv;obtain⟨y,q1,q2⟩:=hx;rw[q2];exact dU g (v':=.iface t y) rfl ⟨y,q1,rfl⟩
  . cases e
 case binOp op t x y yt=>
  split at e
  . rename_i a b ha hb;obtain⟨u,h1,rfl⟩:=fT e;exact PY g (hr x (by simp) a ha) (hr y (by simp) b hb) h1
  . cases e
 case unOp op t x=>
  split at e
  . rename_i v hv;obtain⟨u,h1,rfl⟩:=fT e;exact Ug g (hr x (by simp) v hv) h1
  . cases e
 case convert s d x=>
  split at e
  . rename_i v hv;exact Kh g hn (hr x (by simp) v hv) e
  . cases e
 case makeInterface t x=>
  split at e
  . rename_i v d hv hu;split at e
    . cases e
    . rename_i hd;obtain rfl:=ew e;have hx:=hr x (by simp) v hv;refine dU g (v':=.iface t (ρ x)) ?_ ⟨ρ x,hx,rfl⟩;simp only[Instr.makeInterface,Sem.run_bind,dr hu,Result.andThen_ok];cases d<;>first|(exact absurd rfl (hd _))|rfl
  . cases e
 case makeFunc f first captured=>
  split at e
  . rename_i a c ha hc;split at e
    case isFalse=>cases e
    rename_i hny;obtain rfl:=ew e;have TV:yl E f f:=by cases f<;>first|rfl|cases hny
    have r1:=uQ (E:=E) (ρ:=ρ) first.toList a (fun x hx=>hr x (by simp at hx ⊢;exact .inl hx)) ha
    have r2:=uQ (E:=E) (ρ:=ρ) captured.toList c (fun x hx=>hr x (by simp at hx ⊢;exact .inr hx)) hc;refine dU g (v':=.func f (first.map ρ) (captured.map ρ)) rfl ⟨f,first.toList.map ρ,captured.toList.map ρ,TV,r1,r2,?_⟩;congr 1<;>(apply Array.ext';simp)
  . cases e
 case makeMap t Qe=>
  cases Qe with
  |some _=>simp at e
  |none=>
   simp only at e;split at e
   . rename_i h' n' ho;obtain rfl:=ew e;exact Ko g hn ho
   . cases e
 case makeSlice t l c=>
  split at e
  . rename_i lv cv hl hc;exact Gb g hn (hr l (by simp) lv hl) (hr c (by simp) cv hc) e
  . cases e
 case slice t x lo hi mx=>
  split at e
  . rename_i v lov hiv mxv hv yF Mt hmx;obtain⟨u,h1,rfl⟩:=fT e;refine P5 g (hr x (by simp) v hv) (xu (fun y hy=>hr y ?_) yF) (xu (fun y hy=>hr y ?_) Mt) (xu (fun y hy=>hr y ?_) hmx) h1
    . subst hy;simp
    . subst hy;simp
    . subst hy;simp
  . cases e
 case fieldAddr t x f=>
  split at e
  . rename_i v hv;obtain⟨u,h1,rfl⟩:=fT e;exact F8 g (hr x (by simp) v hv) h1
  . cases e
 case field t x f=>
  split at e
  . rename_i v hv;obtain⟨u,h1,rfl⟩:=fT e;exact P0 g (hr x (by simp) v hv) h1
  . cases e
 case indexAddr t x i=>
  split at e
  . rename_i v iv hv hi;obtain⟨u,h1,rfl⟩:=fT e;exact F9 g (hr x (by simp) v hv) (hr i (by simp) iv hi) h1
  . cases e
 case index t x i=>
  split at e
  . rename_i v iv hv hi;obtain⟨u,h1,rfl⟩:=fT e;exact P4 g (hr x (by simp) v hv) (hr i (by simp) iv hi) h1
  . cases e
 case lookup t x k ok=>
  split at e
  . rename_i v kv hv hk;obtain⟨u,h1,rfl⟩:=fT e;exact NZ g (hr x (by simp) v hv) (hr k (by simp) kv hk) h1
  . cases e
 case mapUpdate t m k v=>
  split at e
  . rename_i mv kv vv hm hk hv;exact yL g (hr m (by simp) mv hm) (hr k (by simp) kv hk) (hr v (by simp) vv hv) e
  . cases e
 case insert t m k v=>
  split at e
  . rename_i mv kv vv hm hk hv;exact yL g (hr m (by simp) mv hm) (hr k (by simp) kv hk) (hr v (by simp) vv hv) e
  . cases e
 case mapEntry t m k=>
  split at e
  . rename_i mv kv hm hk;exact Ib g (hr m (by simp) mv hm) (hr k (by simp) kv hk) e
  . cases e
 case entryStore t m s v=>
  split at e
  . rename_i mv sv vv hm hs hv;exact Eb g (hr m (by simp) mv hm) (hr s (by simp) sv hs) (hr v (by simp) vv hv) e
  . cases e
 case range t x=>
  split at e
  . rename_i v hv;exact Qd g hn (hr x (by simp) v hv) e
  . cases e
 case next it b=>
  split at e
  . rename_i v hv;exact Uo g (hr it (by simp) v hv) e
  . cases e
 case typeAssert x xt t ok=>
  split at e
  . rename_i v hv;obtain⟨u,h1,rfl⟩:=fT e;exact D8 g (hr x (by simp) v hv) h1
  . cases e
 case extract x i=>
  split at e
  . rename_i vs hv;obtain⟨u,h1,rfl⟩:=fT e;exact Kf g (hr x (by simp) _ hv) h1
  . cases e
 case panic x=>
  split at e
  . rename_i t v hv;obtain rfl:=ew e;obtain⟨y,q1,q2⟩:=hr x (by simp) _ hv;refine⟨.iface t y,?_,y,q1,rfl⟩;rw[q2];simp[Instr.panic]
  . cases e
 case call c=>exact Kp g hn hr e
 case defer c=>exact Ic hr e
 all_goals (cases e)
end
def yM(E:Env)(fr:Tr V)(a:Act):Prop:=∀t v,fr.get t=some v->∃v',a.tmps[t]? =some v'/\dF E v v'
theorem jT{E E':Env}(h:E.le E'){fr:Tr V}{a:Act}(r:yM E fr a):yM E' fr a:=fun t v e=>let⟨v',h1,h2⟩:=r t v e;⟨v',h1,jl h v v' h2⟩
section
variable(a:Act){E:Env}(dst:Option Tmp){fr:Tr V}
theorem iF(v:Value):(a.put dst v).tmps.size=a.tmps.size:=by cases dst<;>simp[Act.put]
theorem gA(v:Value):(a.put dst v).defers=a.defers:=by cases dst<;>rfl
def nj(N:Nat)(dst:Option Tmp):Prop:=∀d,dst=some d->d<N
theorem jA{fr':Tr V}{a:Act}{dst:Option Tmp}{v:V}{v':Value}(r:yM E fr a)(e:iZ fr dst v=some fr')(hv:dF E v v')(hd:nj a.tmps.size dst):yM E fr' (a.put dst v'):=by
 cases dst with
 |none=>simp only[iZ,an]at e;subst e;exact r
 |some d=>
  simp only[iZ]at e;split at e
  . rename_i ht;obtain rfl:=ew e;intro t x hx;rw[Tr.eS _ _ _ ht]at hx;have fJ:=hd d rfl;by_cases q:t=d
    . subst q;rw[aG rfl]at hx;cases hx;exact⟨v',by simp[Act.put,fJ],hv⟩
    . rw[aI q]at hx;obtain⟨y,h1,h2⟩:=r t x hx;exact⟨y,by simp[Act.put,Ne.symm q,h1],h2⟩
  . cases e
theorem iG{a:Act}(ge:GE E)(r:yM E fr a)(x:Operand):mI E fr a.eval x:=by
 intro v e;cases x with
 |tmp t=>obtain⟨v',h1,h2⟩:=r t v e;simp only[Act.eval,b7,h1];exact h2
 |const c=>exact zU e
 |func f=>simp only[iK,an]at e;subst e;exact⟨_,[],[],rfl,rfl,rfl,rfl⟩
 |global g=>exact HL ge e
end
theorem xw{E:Env}{ops:Array Oper}{o:Oper}{fr:Tr V}{a:Act}{b:Bool}(r:∀j J1 q d,o.guard=some (j,J1)->ops[j]? =some q->q.dst=some d->∀v,fr.get d=some v->∃v',a.tmps[d]? =some v'/\dF E v v')(e:iA ops o fr=some b):
  Region.wanted o (yielded ops a.tmps)=b:=by
 unfold iA at e;unfold Region.wanted;cases hg:o.guard with
 |none=>simp only[hg,an]at e ⊢;exact e
 |some p=>
  obtain⟨j,J1⟩:=p;simp only[hg]at e ⊢;cases hj:ops[j]? with
  |none=>simp[hj]at e
  |some q=>
   simp only[hj]at e;cases hd:q.dst with
   |none=>simp[hd]at e
   |some d=>
    simp only[hd]at e;cases hf:fr.get d with
    |none=>simp[hf]at e
    |some v=>
     obtain⟨v',h1,h2⟩:=r j J1 q d hg hj hd v hf;have hy:yielded ops a.tmps j=(match(some v':Option Value)with|some (.bool b)=>some b|_=>none):=by
      unfold yielded;rw[hj];simp only[Option.bind_some,hd,h1];cases v'<;>rfl
     cases v with
     |bool b0=>
      simp only[hf,an]at e;simp only[dF]at h2;subst h2;rw[hy,<- e];cases b0<;>cases J1<;>rfl
     |ef vs=>
      cases vs with
      |nil=>
       simp only[hf,an]at e;obtain⟨l,hl,rfl⟩:=h2;rw[hy,<- e];rfl
      |cons _ _=>simp[hf]at e
     |_=>simp[hf]at e
def qL(E:Env)(n:Nat):Prop:=∀m,n<=m->E.ι m=none
def tf(E:Env):PJ->Ending->Prop
 | .ret v,.returned v'=>dF E v v'
 | .zQ v,.panicked chain=>∃v',dF E v v'/\chain=[{ v:=v',recovered:=false }]
 |_,_=>False
def fz(R:Option Nat):Fence:={ Fence.wide with round:=R }
def jU(E:Env)(h:Tr O)(n:Nat)(w:World)(tV:PJ)(h':Tr O)(n':Nat)(e:Ending)(w':World):Prop:=
 ∃E',iy E h w E' h' w'/\(∀m,m<n->E'.ι m=E.ι m)/\qL E' n'/\n<=n'/\tf E' tV e
def ji(P:Program)(cf:fO):Prop:=∀f args h n tV h' n',cf f args h n=some (tV,h',n')->∀E w c9,dI E args c9->Good E h w->qL E n->
 (callee P f=true->Calls P f c9.toArray w (jU E h n w tV h' n'))/\
 (∀m l s,f=P.funcs.size+m->E.ι m=some (l,s)->YieldAt Fence.wide 0 P l c9.toArray w (jU E h n w tV h' n'))
theorem lz{R:Option Nat}{ρ:Operand->Value}{o:Oper}(h:∀c,o.op≠ .defer c):Oper.semAt R ρ o=execOp ρ o:=by
 cases R with
 |none=>exact Oper.semAt_none ..
 |some l=>exact Oper.semAt_some l ρ o h
theorem Kq{fr:Tr V}{c:Call}{r:R}(e:B9 fr c=some r):∃f a b,r= .mA f a b:=by
 unfold B9 at e;split at e
 . split at e
   . split at e
     . simp only[an]at e;exact⟨_,_,_,e.symm⟩
     . cases e
   . cases e
 . cases e
section
variable{P:Program}{E:Env}{h h':Tr O}{n n':Nat}{w:World}{fr:Tr V}{a:Act}{o:Oper}{K:Act->World->Prop}{Q:Exit->Act->World->Prop}{uT:Option Nat}
theorem vV{r:R}(e:dD P o fr h n=some r)(hr:∀f a b,r≠ .mA f a b):∀c,o.op≠ .defer c:=by
 intro c hc;simp only[dD,hc]at e;obtain⟨f,x,y,q⟩:=Kq e;exact hr f x y q
theorem Ct{v:V}(g:Good E h w)(hn:E.ι n=none)(hr:∀x∈o.op.operands,mI E fr a.eval x)(e:dD P o fr h n=some (.val v h' n'))
  (hk:∀E' w' v',dF E' v v'->iy E h w E' h' w'->(∀m,m≠n->E'.ι m=E.ι m)->((n'=n/\E'=E)\/n'=n+1)->K (a.put o.dst v') w'):o.wpIn (fz uT) 0 P a w K Q:=by
 obtain⟨E',w',v',fM,h1,h2,h3,h4⟩:=mJ g hn hr e;refine⟨fun _ _=>trivial,?_⟩;rw[lz (vV e fun _ _ _=>by simp)];rcases fM with fM|⟨fM,rfl⟩
 . rw[fM,Oper.uponIn_value];exact hk E' w' v' h1 h2 h3 h4
 . rw[fM,Oper.uponIn_skip];exact hk E' w' undef h1 h2 h3 h4
theorem BE{cf:fO}{f:FuncId}{args:ag}{tV:PJ}(oB:ji P cf)(g:Good E h w)(hn:qL E n)(hr:∀x∈o.op.operands,mI E fr a.eval x)
  (e:dD P o fr h n=some (.call f args)) (ec:cf f args h n=some (tV,h',n'))
  (hk:∀E' w',iy E h w E' h' w'->(∀m,m<n->E'.ι m=E.ι m)->qL E' n'->n<=n'->
   match tV with
   | .ret v=>∀v',dF E' v v'->K (a.put o.dst v') w'
   | .zQ v=>∀v',dF E' v v'->Q (.panic [{ v:=v',recovered:=false }]) a w'):o.wpIn (fz uT) 0 P a w K Q:=by
 obtain⟨c9,h1,fM⟩:=mJ g (hn n (aA _)) hr e;refine⟨fun _ _=>trivial,?_⟩;rw[lz (vV e fun _ _ _=>by simp)];have Cu:∀en w',jU E h n w tV h' n' en w'->(match en,w' with
  | .returned v,w''=>K (a.put o.dst v) w''
  | .panicked chain,w''=>Q (.panic chain) a w''
  | .outgrown,_=>LetsOut Q):=fun en w' ⟨E',u1,u2,u3,u4,u5⟩=>by
  have:=hk E' w' u1 u2 u3 u4;cases tV with
  |ret v=>cases en with
   |returned v'=>exact this v' u5
   |panicked _=>exact u5.elim
   |outgrown=>exact u5.elim
  |zQ v=>cases en with
   |returned v'=>exact u5.elim
   |panicked chain=>obtain⟨v',q1,rfl⟩:=u5;exact this v' q1
   |outgrown=>exact u5.elim
 rcases fM with⟨fM,h2⟩|⟨m,l,s,h2,h3,fM⟩
 . rw[fM,Oper.uponIn_enter];have hc:CallsIn Fence.wide (0-1) P f c9.toArray w _:=callsIn_wide.2 (((oB f args h n tV h' n' ec E w c9 h1 g hn).1 h2).mono Cu);exact⟨fun hd=>by simp[fz,Fence.wide]at hd,hc⟩
 . obtain⟨fn,tmps,assign,body,q1,q2⟩:=(oB f args h n tV h' n' ec E w c9 h1 g hn).2 m l s h2 h3;rw[fM,q1,Oper.uponIn_round];have hc:RoundIn Fence.wide (0-1) P l fn tmps assign body w _:=q2.mono Cu;exact⟨fun hd=>by simp[fz,Fence.wide]at hd,hc⟩
theorem Qf{v:V}(g:Good E h w)(hn:E.ι n=none)(hr:∀x∈o.op.operands,mI E fr a.eval x)(e:dD P o fr h n=some (.panic v))
  (hk:∀v',dF E v v'->Q (.panic [{ v:=v',recovered:=false }]) a w):o.wpIn (fz uT) 0 P a w K Q:=by
 obtain⟨v',fM,h1⟩:=mJ g hn hr e;refine⟨fun _ _=>trivial,?_⟩;rw[lz (vV e fun _ _ _=>by simp)];rw[fM,Oper.uponIn_panic];exact hk v' h1
theorem Zc{f:FuncId}{c args:ag}(Up:uT=none)(g:Good E h w)(hn:E.ι n=none)(hr:∀x∈o.op.operands,mI E fr a.eval x)(e:dD P o fr h n=some (.mA f c args))
  (hk:∀c' c9,dI E c c'->dI E args c9->K ({ a with defers:={ target:=.fn (.func f) c'.toArray,args:=c9.toArray }::a.defers }.put o.dst undef) w):o.wpIn (fz uT) 0 P a w K Q:=by
 subst Up;obtain⟨c',c9,fM,h1,h2⟩:=mJ g hn hr e;refine⟨fun _ _=>trivial,?_⟩;show o.uponIn (fz none) 0 P a K Q ((Oper.semAt none a.eval o).run P w);rw[Oper.semAt_none,fM,Oper.uponIn_defer];exact hk c' c9 h1 h2
end
def Sub(x y:Tr O):Prop:=∀k b,x.get k=some b->y.get k=some b
section
variable{P:Program}{fr:Tr V}{x:Tr O}{n:Nat}
theorem Ie{o:Oper}{r:R}(hp:qh o.op=true)(e:dD P o fr x n=some r):∃v,r= .val v x n/\∀(y:Tr O) (k:Nat),dD P o fr y k=some (.val v y k):=by
 obtain⟨dst,op,ty,pos,after,guard⟩:=o;simp only at hp;cases op<;>simp only[qh]at hp<;>first|(cases hp;done)|skip
 all_goals simp only[dD]at e
 case move a=>obtain⟨v,h1,rfl⟩:=fT e;exact⟨v,rfl,fun y k=>by simp only[dD,h1,mS]⟩
 case assign a=>obtain⟨v,h1,rfl⟩:=fT e;exact⟨v,rfl,fun y k=>by simp only[dD,h1,mS]⟩
 case pick c a b=>
  split at e
  . rename_i hc;obtain⟨v,h1,rfl⟩:=fT e;exact⟨v,rfl,fun y k=>by simp only[dD,hc,h1,mS]⟩
  . rename_i hc;obtain⟨v,h1,rfl⟩:=fT e;exact⟨v,rfl,fun y k=>by simp only[dD,hc,h1,mS]⟩
  . cases e
 case build t parts=>
  split at e
  . rename_i ps hc;obtain⟨v,h1,rfl⟩:=fT e;exact⟨v,rfl,fun y k=>by simp only[dD,hc,h1,mS]⟩
  . cases e
 case nilCheck a=>
  split at e
  . rename_i p hc;obtain rfl:=ew e;exact⟨_,rfl,fun y k=>by simp only[dD,hc]⟩
  . rename_i hc;obtain rfl:=ew e;exact⟨_,rfl,fun y k=>by simp only[dD,hc]⟩
  . rename_i hc;obtain rfl:=ew e;exact⟨_,rfl,fun y k=>by simp only[dD,hc]⟩
  . rename_i t v hc;obtain rfl:=ew e;exact⟨_,rfl,fun y k=>by simp only[dD,hc]⟩
  . cases e
 case binOp op t a b yt=>
  split at e
  . rename_i u w h1 h2;obtain⟨v,h3,rfl⟩:=fT e;exact⟨v,rfl,fun y k=>by simp only[dD,h1,h2,h3,mS]⟩
  . cases e
 case unOp op t a=>
  split at e
  . rename_i u h1;obtain⟨v,h3,rfl⟩:=fT e;exact⟨v,rfl,fun y k=>by simp only[dD,h1,h3,mS]⟩
  . cases e
 case makeInterface t a=>
  split at e
  . rename_i v d h1 h2;split at e
    . cases e
    . rename_i hd;obtain rfl:=ew e;refine⟨_,rfl,fun y k=>?_⟩;simp only[dD,h1,h2]
  . cases e
 case makeFunc f a c=>
  split at e
  . rename_i u w h1 h2;split at e
    case isFalse=>cases e
    rename_i hny;obtain rfl:=ew e;exact⟨_,rfl,fun y k=>by simp only[dD,h1,h2,hny,if_true]⟩
  . cases e
 case fieldAddr t a f=>
  split at e
  . rename_i u h1;obtain⟨v,h3,rfl⟩:=fT e;exact⟨v,rfl,fun y k=>by simp only[dD,h1,h3,mS]⟩
  . cases e
 case field t a f=>
  split at e
  . rename_i u h1;obtain⟨v,h3,rfl⟩:=fT e;exact⟨v,rfl,fun y k=>by simp only[dD,h1,h3,mS]⟩
  . cases e
 case indexAddr t a i=>
  split at e
  . rename_i u w h1 h2;obtain⟨v,h3,rfl⟩:=fT e;exact⟨v,rfl,fun y k=>by simp only[dD,h1,h2,h3,mS]⟩
  . cases e
 case index t a i=>
  split at e
  . rename_i u w h1 h2;obtain⟨v,h3,rfl⟩:=fT e;exact⟨v,rfl,fun y k=>by simp only[dD,h1,h2,h3,mS]⟩
  . cases e
 case typeAssert a s t ok=>
  split at e
  . rename_i u h1;obtain⟨v,h3,rfl⟩:=fT e;exact⟨v,rfl,fun y k=>by simp only[dD,h1,h3,mS]⟩
  . cases e
 case extract a i=>
  split at e
  . rename_i vs h1;obtain⟨v,h3,rfl⟩:=fT e;exact⟨v,rfl,fun y k=>by simp only[dD,h1,h3,mS]⟩
  . cases e
section
variable{t:TypeId}{o:Oper}{a:V}{r:R}
theorem If{v:V}{y:Tr O}(hs:Sub x y)(e:loadAt P t x a=some v):loadAt P t y a=some v:=by
 unfold loadAt at e ⊢;split at e
 . rename_i m o;split at e
   . rename_i cs hm;simp only[hs m _ hm];exact e
   . rename_i k ks hm;simp only[hs m _ hm];exact e
   . rename_i k ks hm;simp only[hs m _ hm];exact e
   . rename_i cs hm;simp only[hs m _ hm];exact e
   . rename_i T self x0 hm;simp only[hs m _ hm];exact e
   . cases e
 . exact e
 . cases e
theorem Gf{m k:Nat}{y:Tr O}(hs:Sub x y)(e:yf x m k=true):yf y m k=true:=by
 unfold yf at e ⊢;split at e
 . rename_i cs hm;simp only[hs m _ hm];exact e
 . cases e
theorem Ig{v:V}{lo hi mx:Option V}{y:Tr O}(hs:Sub x y)(e:mD P t x a lo hi mx=some v):mD P t y a lo hi mx=some v:=by
 unfold mD at e ⊢;split at e
 . cases e
 . rename_i h0;rw[aI h0];split at e
   . exact e
   . exact e
   . exact e
   . rename_i nn el b o hu;cases h1:kN P el with
     |none=>simp[h1]at e
     |some s=>cases h2:eK nn nn mx with
      |none=>simp[h1,h2]at e
      |some m=>cases h3:eK nn m hi with
       |none=>simp[h1,h2,h3]at e
       |some hh=>cases h4:eK 0 hh lo with
        |none=>simp[h1,h2,h3,h4]at e
        |some l=>
         simp only[h1,h2,h3,h4]at e ⊢;split at e
         . rename_i hq;rw[aG ⟨hq.1,hq.2.1,Gf hs hq.2.2⟩];exact e
         . cases e
   . cases e
theorem Gg{k v:V}{ok:Bool}{y:Tr O}(hs:Sub x y)(e:vK P t x a k ok=some v):vK P t y a k ok=some v:=by
 unfold vK at e ⊢;split at e
 . split at e
   . cases a with
     |map m=>
      cases m with
      |none=>exact e
      |some m=>
       simp only[V.Xp]at e ⊢;cases hm:x.get m with
       |none=>simp[hm]at e
       |some o=>
        have hy:=hs m o hm;rw[hy];rw[hm]at e;cases o with
        |dy kk es=>exact e
        |_=>simp only[hy];simp only[hm]at e;exact e
     |_=>exact e
   . cases e
 . cases e
theorem N2{ts:Array TypeId}{as:ag}{v:V}{y:Tr O}(hs:Sub x y)(e:NK P ts as x=some v):NK P ts as y=some v:=by
 unfold NK at e ⊢;split at e
 . split at e
   . exact e
   . exact e
   . exact e
   . exact e
   . exact e
   . rename_i m hu;cases hm:x.get m with
     |none=>simp[hm]at e
     |some o=>
      simp only[hs m o hm];simp only[hm]at e;exact e
   . cases e
 . cases e
theorem Kr{o:O}{p:Tr O×Nat}(e:newObj x n o=some p)(y:Tr O):n<fN/\p=(x.set n (some o),n+1)/\newObj y n o=some (y.set n (some o),n+1):=by
 obtain⟨h',n'⟩:=p;obtain⟨h1,rfl,rfl⟩:=kK e;exact⟨h1,rfl,by simp[newObj,h1]⟩
def uU(P:Program)(o:Oper)(fr:Tr V)(x:Tr O)(n:Nat)(r:R):Prop:=
 (∃v,r= .val v x n/\∀y,Sub x y->dD P o fr y n=some (.val v y n)) \/
 (∃v b,n<fN/\r= .val v (x.set n (some b)) (n+1)/\∀y,dD P o fr y n=some (.val v (y.set n (some b)) (n+1)))
theorem uU.alloc{ob:O}{v:V}{h':Tr O}{n':Nat}(e:newObj x n ob=some (h',n'))(k:∀(y h2:Tr O) (m:Nat),newObj y n ob=some (h2,m)->dD P o fr y n=some (.val v h2 m)):uU P o fr x n (.val v h' n'):=by
 obtain⟨h1,rfl,rfl⟩:=kK e;exact .inr ⟨v,ob,h1,rfl,fun y=>k y _ _ (Kr e y).2.2⟩
theorem Ec(hp:qh o.op=true)(e:dD P o fr x n=some r):uU P o fr x n r:=by
 obtain⟨v,h1,h2⟩:=Ie hp e;exact .inl ⟨v,h1,fun y _=>h2 y n⟩
theorem quiet(hq:qQ o.op=false)(e:dD P o fr x n=some r):uU P o fr x n r:=by
 by_cases hp:qh o.op=true
 . exact Ec hp e
 have e0:=e;obtain⟨dst,op,ty,pos,after,guard⟩:=o;simp only at hq hp;cases op<;>simp only[qQ]at hq<;>first|(cases hq;done)|skip
 all_goals first|(exact absurd rfl hp)|skip
 all_goals simp only[dD]at e
 case alloc t=>
  split at e
  . rename_i z hz;split at e
    . rename_i h' n' ho;obtain rfl:=ew e;exact uU.alloc ho fun y h2 m q=>by simp only[dD,hz,q]
    . cases e
  . cases e
 case box t a=>
  split at e
  . rename_i v hv;split at e
    . rename_i h' n' ho;obtain rfl:=ew e;exact uU.alloc ho fun y h2 m q=>by simp only[dD,hv,q]
    . cases e
  . cases e
 case buildSlice t cO parts=>
  split at e
  . rename_i ps HA;unfold oy at e;split at e
    . rename_i el he;split at e
      . rename_i s z hs hz;split at e
        . rename_i hc;split at e
          . rename_i cs hf;split at e
            . rename_i h' n' ho;obtain rfl:=ew e;exact uU.alloc ho fun y h2 m q=>by
               simp only[dD,HA,oy,he,hs,hz];rw[aG hc];simp only[hf,q]
            . cases e
          . cases e
        . cases e
      . cases e
    . cases e
  . cases e
 case load t a=>
  split at e
  . rename_i v hv;obtain⟨u,h1,rfl⟩:=fT e;exact .inl ⟨u,rfl,fun y hs=>by simp only[dD,hv,If hs h1,mS]⟩
  . cases e
 case convert s d a=>
  split at e
  . rename_i v hv;unfold qf at e;split at e
    . rename_i h1 h2;obtain rfl:=ew e;exact .inl ⟨_,rfl,fun y hs=>by simp only[dD,hv,qf,h1,h2]⟩
    . rename_i h1 h2;obtain rfl:=ew e;exact .inl ⟨_,rfl,fun y hs=>by simp only[dD,hv,qf,h1,h2]⟩
    . rename_i h1 h2;split at e
      . rename_i h3;split at e
        . rename_i h' n' ho;obtain rfl:=ew e;exact uU.alloc ho fun y Uj m q=>by simp only[dD,hv,qf,h1,h2,h3,q]
        . cases e
      . cases e
    . rename_i h1 h2;split at e
      . rename_i h3;obtain rfl:=ew e;exact .inl ⟨_,rfl,fun y hs=>by simp only[dD,hv,qf,h1,h2,h3]⟩
      . cases e
    . rename_i h1 h2;split at e
      . rename_i h3;obtain rfl:=ew e;exact .inl ⟨_,rfl,fun y hs=>by simp only[dD,hv,qf,h1,h2,h3]⟩
      . cases e
    . rename_i h1 h2;split at e
      . rename_i h3;split at e
        . rename_i h4;have key:∀y:Tr O,Sub x y->∀m,AM (x.get m)=AM (y.get m)\/x.get m=none:=fun y hs m=>by
           cases hm:x.get m with
           |none=>exact .inr rfl
           |some o=>rw[hs m o hm];exact .inl rfl
          have adI:∀y:Tr O,Sub x y->∀m,uy (x.get m)=uy (y.get m)\/x.get m=none:=fun y hs m=>by
           cases hm:x.get m with
           |none=>exact .inr rfl
           |some o=>rw[hs m o hm];exact .inl rfl
          rename_i m0 o0 asn _ _ _;split at e
          . rename_i s0 F5;split at e
            . rename_i hl;obtain rfl:=ew e;refine .inl ⟨_,rfl,fun y hs=>?_⟩;simp only[dD,hv,qf,h1,h2,h3];rw[aG h4];rcases adI y hs m0 with q|q
              . rw[<- q,F5];simp only[aG hl]
              . rw[q]at F5;cases F5
            . cases e
          . rename_i aju;split at e
            . rename_i ks DY;split at e
              . rename_i hl;obtain rfl:=ew e;refine .inl ⟨_,rfl,fun y hs=>?_⟩;simp only[dD,hv,qf,h1,h2,h3];rw[aG h4];rcases adI y hs m0 with q|q
                . rw[<- q,aju];rcases key y hs m0 with q|q
                  . rw[<- q,DY];simp only[aG hl]
                  . rw[q]at DY;cases DY
                . rw[q]at DY;cases DY
              . cases e
            . rename_i DY;split at e
              . obtain rfl:=ew e;refine .inl ⟨_,rfl,fun y hs=>?_⟩;simp only[dD,hv,qf,h1,h2,h3];rw[aG h4];cases uy (y.get m0)with
                |some s0=>simp
                |none=>
                 cases AM (y.get m0)with
                 |none=>rfl
                 |some ks=>simp[eN]
              . split at e
                . rename_i cs hm;split at e
                  . rename_i bs hc;split at e
                    . rename_i s' ht;obtain rfl:=ew e;refine .inl ⟨_,rfl,fun y hs=>?_⟩;simp only[dD,hv,qf,h1,h2,h3];rw[aG h4];simp only[hs _ _ hm,uy,AM,hc,ht]
                    . cases e
                  . cases e
                . cases e
        . cases e
      . cases e
    . cases e
  . cases e
 case makeMap t Qe=>
  cases Qe with
  |some _=>simp at e
  |none=>
   simp only at e;split at e
   . rename_i h' n' ho;obtain rfl:=ew e;exact uU.alloc ho fun y h2 m q=>by simp only[dD,q]
   . cases e
 case makeSlice t l c=>
  split at e
  . rename_i lv cv h1 h2;unfold nN at e;split at e
    . rename_i el k l0 k' c0 he;split at e
      . rename_i i z h3 h4;simp only at e;split at e
        . rename_i hc;split at e
          . rename_i h' n' ho;obtain rfl:=ew e;exact uU.alloc ho fun y Uj m q=>by
             simp only[dD,h1,h2,nN,he,h3,h4];rw[aG hc];simp only[q]
          . cases e
        . cases e
      . cases e
    . cases e
  . cases e
 case slice t a lo hi mx=>
  split at e
  . rename_i v lov hiv mxv h1 h2 h3 h4;obtain⟨u,h5,rfl⟩:=fT e;exact .inl ⟨u,rfl,fun y hs=>by simp only[dD,h1,h2,h3,h4,Ig hs h5,mS]⟩
  . cases e
 case lookup t a k ok=>
  split at e
  . rename_i v kv h1 h2;obtain⟨u,h5,rfl⟩:=fT e;exact .inl ⟨u,rfl,fun y hs=>by simp only[dD,h1,h2,Gg hs h5,mS]⟩
  . cases e
 case range t a=>
  split at e
  . rename_i v hv;unfold B8 at e;split at e
    . rename_i s hu;split at e
      . rename_i h' n' ho;obtain rfl:=ew e;exact uU.alloc ho fun y Uj m q=>by simp only[dD,hv,B8,hu,q]
      . cases e
    . cases e
  . cases e
 case call c=>
  obtain⟨cal,args,ats⟩:=c;cases cal with
  |value f=>simp at hq
  |invoke f m=>simp at hq
  |builtin b=>
   simp only[wN]at e;split at e
   . rename_i as ha;cases b<;>simp only[]at hq<;>first|(cases hq;done)|skip
     . simp only[lp]at e;obtain⟨u,h5,rfl⟩:=fT e;exact .inl ⟨u,rfl,fun y hs=>by simp only[dD,wN,ha,lp,N2 hs h5,mS]⟩
     . simp only[lp]at e;split at e
       . obtain⟨u,h5,rfl⟩:=fT e;exact .inl ⟨u,rfl,fun y hs=>by simp only[dD,wN,ha,lp,h5,mS]⟩
       . cases e
     . simp only[lp]at e;split at e
       . obtain⟨u,h5,rfl⟩:=fT e;exact .inl ⟨u,rfl,fun y hs=>by simp only[dD,wN,ha,lp,h5,mS]⟩
       . cases e
   . cases e
 all_goals (cases e)
end
end
theorem Cv(l:List Oper)(o:Oper):pn (l++[o])=pn l++[eM (pn l) o.after.toList]:=by simp[pn]
theorem wR:∀(l:List Oper) (gq:List Nat),(l.foldl (fun gq o=>gq++[eM gq o.after.toList]) gq).length=gq.length+l.length
 | [],gq=>by simp
 |o::l,gq=>by simp only[List.foldl_cons];rw[wR l];simp;omega
theorem Gh(l:List Oper):(pn l).length=l.length:=by unfold pn;rw[wR];simp
def l7(ops:Array Oper)(j:Nat):Nat:=match ops[j]? with
 |some o=>eM (pn (ops.toList.take j)) o.after.toList
 |none=>0
theorem EI{α:Type}{l:List α}{i:Nat}{o:α}(h:l[i]? =some o):l.take (i+1)=l.take i++[o]:=by
 rw[bI,h];rfl
theorem nk(ops:Array Oper):∀i,i<=ops.size->∀k,k<i->(pn (ops.toList.take i)).getD k 0=l7 ops k
 |0,_,k,hk=>by omega
 |i+1,hi,k,hk=>by
  have ho:ops.toList[i]? =some ops[i]:=by rw[bK];exact bk be
  rw[EI ho,Cv];have hl:(pn (ops.toList.take i)).length=i:=by rw[Gh];simp;omega
  by_cases q:k<i
  . rw[aL,bz be,<- aL];exact nk ops i be k q
  . have:k=i:=by omega
    subst this;rw[aL,cj be,hl];simp only[Nat.sub_self,bG,Option.getD_some];unfold l7;rw[<- bK,ho]
theorem Aa(a b i:Nat):ee (a|||b) i=(ee a i||ee b i):=Nat.testBit_or a b i
theorem Cw(k i:Nat):ee (2^k) i=decide (k=i):=Nat.testBit_two_pow
theorem kj(i:Nat):ee 0 i=false:=Nat.zero_testBit i
theorem xx(ek:List Nat)(k:Nat):∀es:List Edge,ee (eM ek es) k=true↔∃e∈es,Region.binds .any e=true/\(e.on=k\/ee (ek.getD e.on 0) k=true)
 | []=>by simp[eM,kj]
 |e::es=>by
  simp only[eM];by_cases hb:Region.binds .any e=true
  . rw[aG hb,Aa,Aa,Cw,bT,bT,xx ek k es];simp only[bC,aE];constructor
    . rintro(⟨x,h1,h2,h3⟩|h|h)
      . exact⟨x,.inr h1,h2,h3⟩
      . exact⟨e,.inl rfl,hb,.inl h⟩
      . exact⟨e,.inl rfl,hb,.inr h⟩
    . rintro⟨x,rfl|h1,h2,h3⟩
      . exact .inr h3
      . exact .inl ⟨x,h1,h2,h3⟩
  . rw[aI hb,xx ek k es];simp only[aE];constructor
    . rintro⟨x,h1,h2,h3⟩;exact⟨x,.inr h1,h2,h3⟩
    . rintro⟨x,rfl|h1,h2,h3⟩
      . exact absurd h2 hb
      . exact⟨x,h1,h2,h3⟩
def vW(ops:Array Oper):Prop:=∀(j:Nat) (o:Oper),ops[j]? =some o->∀e∈o.after,Region.binds .any e=true->e.on<j
section
variable{ops:Array Oper}
theorem yN(he:vW ops){j k:Nat}{o:Oper}(ho:ops[j]? =some o):
  ee (l7 ops j) k=true↔∃e∈o.after,Region.binds .any e=true/\(e.on=k\/ee (l7 ops e.on) k=true):=by
 have hj:j<ops.size:=(aQ.1 ho).1;unfold l7;simp only[ho];rw[xx];constructor
 . rintro⟨e,h1,h2,h3⟩;have mB:e∈o.after:=by simpa using h1
   have fJ:=he j o ho e mB h2;refine⟨e,mB,h2,h3.imp id fun q=>?_⟩;rw[nk ops j be e.on fJ]at q;exact q
 . rintro⟨e,h1,h2,h3⟩;have fJ:=he j o ho e h1 h2;refine⟨e,by simpa using h1,h2,h3.imp id fun q=>?_⟩;rw[nk ops j be e.on fJ];exact q
theorem Ks(he:vW ops):∀j k,ee (l7 ops j) k=true->k<j:=by
 intro j
 induction j using Nat.strongRecOn with
 |_ j ih=>
  intro k h;cases ho:ops[j]? with
  |none=>simp[l7,ho,kj]at h
  |some o=>
   obtain⟨e,h1,h2,h3⟩:=(yN he ho).1 h;have fJ:=he j o ho e h1 h2;rcases h3 with rfl|h3
   . exact fJ
   . exact Nat.lt_trans (ih e.on fJ k h3) fJ
theorem EJ(he:vW ops):∀j i k,ee (l7 ops j) i=true->ee (l7 ops i) k=true->ee (l7 ops j) k=true:=by
 intro j
 induction j using Nat.strongRecOn with
 |_ j ih=>
  intro i k h h';cases ho:ops[j]? with
  |none=>simp[l7,ho,kj]at h
  |some o=>
   obtain⟨e,h1,h2,h3⟩:=(yN he ho).1 h;have fJ:=he j o ho e h1 h2;refine(yN he ho).2 ⟨e,h1,h2,.inr ?_⟩;rcases h3 with rfl|h3
   . exact h'
   . exact ih e.on fJ i k h3 h'
theorem Cx(he:vW ops){S:Nat->Prop}(hS:∀j o,S j->ops[j]? =some o->∀e∈o.after,Region.binds .any e=true->S e.on):
  ∀j k,S j->ee (l7 ops j) k=true->S k:=by
 intro j
 induction j using Nat.strongRecOn with
 |_ j ih=>
  intro k hj h;cases ho:ops[j]? with
  |none=>simp[l7,ho,kj]at h
  |some o=>
   obtain⟨e,h1,h2,h3⟩:=(yN he ho).1 h;have hs:=hS j o hj ho e h1 h2;rcases h3 with rfl|h3
   . exact hs
   . exact ih e.on (he j o ho e h1 h2) k hs h3
end
structure mP(ops:Array Oper)(N:Nat):Prop where
 yO:vW ops
 dst:∀(j:Nat) (o:Oper),ops[j]? =some o->nj N o.dst
 one:∀(i j:Nat) (o q:Oper) (t:Nat),ops[i]? =some o->ops[j]? =some q->o.dst=some t->q.dst=some t->i=j
 use:∀(i j:Nat) (o q:Oper) (t:Nat),ops[i]? =some o->ops[j]? =some q->i≠j->o.dst=some t->t∈uH ops q->if i<j then ee (l7 ops j) i=true else ee (l7 ops i) j=true
theorem Kt{ops:Array Oper}{N:Nat}(h:PL ops N=true):mP ops N:=by
 unfold PL at h;rw[bn]at h;have at_:∀j o,ops[j]? =some o->(o.after.toList.all (fun e=>!Region.binds .any e||decide (e.on<j))=true/\(match o.dst with|some d=>decide (d<N)|none=>true)=true/\
   ∀i,i<ops.size->i≠j->F0 ops (pn ops.toList) i j=true):=by
  intro j o ho;have hj:j<ops.size:=(aQ.1 ho).1;have:=h j (List.mem_range.2 hj);simp only[ho,aC,bn,List.mem_range]at this;obtain⟨⟨h1,h2⟩,h3⟩:=this;refine⟨by rw[bn];exact h1,h2,fun i hi fP=>?_⟩;have:=h3 i hi;simp only[bT]at this;rcases this with q|q
  . exact absurd (aD q) fP
  . exact q
 have hm:∀j,j<ops.size->(pn ops.toList).getD j 0=l7 ops j:=fun j hj=>by
  have:=nk ops ops.size (aA _) j hj;rwa [show ops.toList.take ops.size=ops.toList from by rw[bq];simp]at this
 refine⟨?_,?_,?_,?_⟩
 . intro j o ho e he hb;obtain⟨h1,_,_⟩:=at_ j o ho;rw[bn]at h1;have:=h1 e (by simpa using he);simp only[hb,Bool.not_true,Bool.false_or,bC]at this;exact this
 . intro j o ho d hd;obtain⟨_,h2,_⟩:=at_ j o ho;rw[hd]at h2;simpa using h2
 . intro i j o q t hi hj ho hq;by_cases e:i=j
   . exact e
   . obtain⟨_,_,h3⟩:=at_ j q hj;have:=h3 i (aQ.1 hi).1 e;simp only[F0,hi,hj,ho,hq,aC,Bool.not_eq_true']at this;have h1:=this.1;rw[cM]at h1;cases h1
 . intro i j o q t hi hj fP ho ht;obtain⟨_,_,h3⟩:=at_ j q hj;have Qg:=(aQ.1 hi).1;have NV:=(aQ.1 hj).1;have:=h3 i Qg fP;have hc:(uH ops q).contains t=true:=by simpa using ht
   simp only[F0,hi,hj,ho,aC,hc,if_true,hm i Qg,hm j NV]at this;have h2:=this.2;split
   . rename_i q;rw[aG q]at h2;exact h2
   . rename_i q;rw[aI q]at h2;exact h2
abbrev xy:=Nat×Nat×Tr O×Nat
def eD(h0:Tr O)(c0:Nat)(dz:List xy):Nat->Nat×Tr O×Nat
 |0=>(0,h0,c0)
 |c+1=>match dz[c]? with
  |some e=>e.2
  |none=>(0,h0,c0)
section
variable{h0:Tr O}{c0:Nat}{dz:List xy}{e:xy}
theorem qp{c:Nat}(h:c<=dz.length):eD h0 c0 (dz++[e]) c=eD h0 c0 dz c:=by
 cases c with
 |zero=>rfl
 |succ c=>simp only[eD];rw[bz be]
theorem xz:eD h0 c0 (dz++[e]) (dz.length+1)=e.2:=by
 simp[eD]
end
def tg(h0:Tr O)(c0:Nat)(dz:List xy):Nat->List (Nat×Nat×Tr O)
 |0=>[]
 |c+1=>match dz[c]? with
  |some e=>(e.1,(eD h0 c0 dz c).1,(eD h0 c0 dz c).2.1)::tg h0 c0 dz c
  |none=>tg h0 c0 dz c
theorem AU{h0:Tr O}{c0:Nat}{dz:List xy}{e:xy}:∀c,c<=dz.length->tg h0 c0 (dz++[e]) c=tg h0 c0 dz c
 |0,_=>rfl
 |c+1,h=>by
  simp only[tg];rw[bz be,qp be,AU c be]
structure Ab(ops:Array Oper)(kg:Tr V)(val:Nat->V)(j:Nat)(fr:Tr V):Prop where
 new:∀(i:Nat) (o:Oper) (t:Nat),i<j->ops[i]? =some o->o.dst=some t->fr.get t=some (val i)
 old:∀(t:Nat),(∀(i:Nat) (o:Oper),i<j->ops[i]? =some o->o.dst≠some t)->fr.get t=kg.get t
section
variable(P:Program)(cf:fO)(ops:Array Oper)(n0:Nat)(h0:Tr O)(kg:Tr V)
def uV(val:Nat->V)(cZ:af)(reads:List (Nat×Nat×Oper×Tr V×V))(dz:List xy)(j:Nat)(o:Oper):Prop:=
 ∃fr,Ab ops kg val j fr/\
  ((iA ops o fr=some false/\val j= .ef []) \/
   (iA ops o fr=some true/\qQ o.op=false/\(∃b,(j,b)∈cZ/\n0+j<fN/\∀y,dD P o fr y (n0+j)=some (.val (val j) (y.set (n0+j) (some b)) (n0+j+1)))) \/
   (iA ops o fr=some true/\qQ o.op=false/\(∀y,dD P o fr y (n0+j)=some (.val (val j) y (n0+j)))) \/
   (iA ops o fr=some true/\qQ o.op=false/\(j,l7 ops j,o,fr,val j)∈reads/\
    ∀c,c<=dz.length->(∀(c':Nat) (e:xy),c<=c'->dz[c']? =some e->ee (l7 ops j) e.1=false)->(∀(c':Nat) (e:xy),c'<c->dz[c']? =some e->ee e.2.1 j=false)->
     ∃y,dD P o fr (gL n0 cZ (eD h0 (n0+ops.size) dz c).1 (eD h0 (n0+ops.size) dz c).2.1 (l7 ops j)) (n0+j)=some (.val (val j) y (n0+j))) \/
   (iA ops o fr=some true/\qQ o.op=true/\∃c h n,dz[c]? =some (j,l7 ops j,h,n)/\
    (let x:=eD h0 (n0+ops.size) dz c
     (dD P o fr (gL n0 cZ x.1 x.2.1 (l7 ops j)) x.2.2=some (.val (val j) h n)) \/
     ∃f args,dD P o fr (gL n0 cZ x.1 x.2.1 (l7 ops j)) x.2.2=some (.call f args)/\cf f args (gL n0 cZ x.1 x.2.1 (l7 ops j)) x.2.2=some (.ret (val j),h,n))))
def rV(val:Nat->V)(j:Nat)(o:Oper)(b:O):Prop:=
 ∃fr,Ab ops kg val j fr/\iA ops o fr=some true/\qQ o.op=false/\n0+j<fN/\b.wr=true/\∀y,dD P o fr y (n0+j)=some (.val (val j) (y.set (n0+j) (some b)) (n0+j+1))
structure oC(val:Nat->V)(dz:List xy)(i:Nat)(d:Dr):Prop where
 ek:d.ek=pn (ops.toList.take i)
 fr:Ab ops kg val i d.fr
 cur:d.cur=((eD h0 (n0+ops.size) dz dz.length).1,(eD h0 (n0+ops.size) dz dz.length).2.1)
 n:d.n=(eD h0 (n0+ops.size) dz dz.length).2.2
 pH:d.pH=tg h0 (n0+ops.size) dz dz.length
 last:d.last=(dz.getLast?).map (·.1)
 uW:∀(c:Nat) (e:xy),dz[c]? =some e->e.1<i/\∃o:Oper,ops[e.1]? =some o/\qQ o.op=true/\e.2.1=l7 ops e.1
 cZ:∀x∈d.cZ,x.1<i
 one:∀(j:Nat) (b b':O),(j,b)∈d.cZ->(j,b')∈d.cZ->b=b'
 Ac:∀(c:Nat) (e:xy) (o:Oper),dz[c]? =some e->ops[e.1]? =some o->∃fr,Ab ops kg val e.1 fr/\iA ops o fr=some true
 BF:∀(j:Nat) (o:Oper) (b:O),(j,b)∈d.cZ->ops[j]? =some o->rV P ops n0 kg val j o b
 chain:∀(c c':Nat) (e e':xy),c'<c->dz[c]? =some e->dz[c']? =some e'->ee (l7 ops e.1) e'.1=true
 Zd:∀(j:Nat) (o:Oper),j<i->ops[j]? =some o->uV P cf ops n0 h0 kg val d.cZ d.reads dz j o
end
mutual
theorem Uq:∀(a b:D),D.beq a b=true->a=b
 | .bool a,b,h=>by cases b<;>simp[D.beq]at h;rw[h]
 | .int k a,b,h=>by cases b<;>simp[D.beq]at h;rw[h.1,h.2]
 | .str a,b,h=>by
   cases b<;>simp only[D.beq]at h<;>first|(cases h;done)|skip
   rw[ga]at h;rw[eq_of_beq h]
 | .dM n a,b,h=>by
   cases b<;>simp only[D.beq]at h<;>first|(cases h;done)|skip
   simp only[aC]at h;rw[aD h.1,uX _ _ h.2]
 | .agg a,b,h=>by
   cases b<;>simp only[D.beq]at h<;>first|(cases h;done)|skip
   rw[uX _ _ h]
theorem uX:∀(a b:ai),D.pG a b=true->a=b
 | [],b,h=>by cases b<;>simp[D.pG]at h;rfl
 |x::xs,b,h=>by
  cases b with
  |nil=>simp[D.pG]at h
  |cons y ys=>
   simp only[D.pG,aC]at h;rw[Uq x y h.1,uX xs ys h.2]
end
mutual
theorem N3:∀(a:D),D.beq a a=true
 | .bool a=>by simp[D.beq]
 | .int k a=>by simp[D.beq]
 | .str a=>by simp only[D.beq];rw[ga];simp
 | .dM n a=>by simp only[D.beq,cM,qq a,Bool.and_self]
 | .agg a=>by simp only[D.beq,qq a]
theorem qq:∀(a:ai),D.pG a a=true
 | []=>rfl
 |x::xs=>by simp only[D.pG,N3 x,qq xs,Bool.and_self]
end
mutual
theorem beq_eq:∀(a b:V),V.beq a b=true->a=b
 | .bool a,b,h=>by cases b<;>simp[V.beq]at h;rw[h]
 | .int k a,b,h=>by cases b<;>simp[V.beq]at h;rw[h.1,h.2]
 | .str a,b,h=>by
   cases b<;>simp only[V.beq]at h<;>first|(cases h;done)|skip
   rw[ga]at h;rw[eq_of_beq h]
 | .ptr a,b,h=>by
   cases b<;>simp only[V.beq]at h<;>first|(cases h;done)|skip
   rw[Cy _ _ h]
 | .di a l c e,b,h=>by
   cases b<;>simp only[V.beq]at h<;>first|(cases h;done)|skip
   simp only[aC]at h;obtain⟨⟨⟨h1,h2⟩,h3⟩,h4⟩:=h;rw[Cy _ _ h1,aD h2,aD h3,aD h4]
 | .map a,b,h=>by
   cases b<;>simp only[V.beq]at h<;>first|(cases h;done)|skip
   rename_i c;cases a<;>cases c<;>simp only[FY]at h<;>first|(cases h;done)|skip
   . rfl
   . rw[aD h]
 | .fn f a c,b,h=>by
   cases b<;>simp only[V.beq]at h<;>first|(cases h;done)|skip
   rename_i g b d;simp only[aC]at h;obtain⟨⟨h1,h2⟩,h3⟩:=h;rw[th a b h2,th c d h3];cases f<;>cases g<;>simp only[PK]at h1<;>first|(cases h1;done)|skip
   all_goals rw[aD h1]
 | .kE,b,h=>by cases b<;>simp only[V.beq]at h<;>first|(cases h;done)|rfl
 | .iface t x,b,h=>by
   cases b<;>simp only[V.beq]at h<;>first|(cases h;done)|skip
   rename_i u y;simp only[aC]at h;rw[aD h.1,beq_eq x y h.2]
 | .nilIface,b,h=>by cases b<;>simp only[V.beq]at h<;>first|(cases h;done)|rfl
 | .agg a,b,h=>by
   cases b<;>simp only[V.beq]at h<;>first|(cases h;done)|skip
   rw[th _ _ h]
 | .ef a,b,h=>by
   cases b<;>simp only[V.beq]at h<;>first|(cases h;done)|skip
   rw[th _ _ h]
 | .dM f n a,b,h=>by
   cases b<;>simp only[V.beq]at h<;>first|(cases h;done)|skip
   simp only[aC,beq_iff_eq]at h;rw[h.1,aD h.2.1,uX _ _ h.2.2]
 | .dw a,b,h=>by
   cases b<;>simp only[V.beq]at h<;>first|(cases h;done)|skip
   rw[uX _ _ h]
theorem th:∀(a b:ag),V.pG a b=true->a=b
 | [],b,h=>by cases b<;>simp only[V.pG]at h<;>first|(cases h;done)|rfl
 |x::xs,b,h=>by
  cases b<;>simp only[V.pG]at h<;>first|(cases h;done)|skip
  simp only[aC]at h;rw[beq_eq x _ h.1,th xs _ h.2]
theorem Cy:∀(a b:Option (Nat×Nat)),qP a b=true->a=b
 |none,b,h=>by cases b<;>simp only[qP]at h<;>first|(cases h;done)|rfl
 |some (x,y),b,h=>by
  cases b<;>simp only[qP]at h<;>first|(cases h;done)|skip
  simp only[aC]at h;rw[aD h.1,aD h.2]
end
theorem yP{P:Program}{n0 i:Nat}{o:Oper}{fr:Tr V}{v:V}{x:Tr O}(h:mM P n0 i o fr v x=true):∃y,dD P o fr x (n0+i)=some (.val v y (n0+i)):=by
 unfold mM at h;split at h
 . rename_i u y k e;simp only[aC]at h;have h1:=aD h.1;have h2:=beq_eq _ _ h.2;subst h1;subst h2;exact⟨y,e⟩
 . cases h
theorem N4{n0 i:Nat}{b:O}{l:af}{m:Nat}{x:Tr O}{gY:Nat}(h:ee gY i=false):gL n0 ((i,b)::l) m x gY=gL n0 l m x gY:=by
 simp[gL,h]
theorem EK{P:Program}{n0 i:Nat}{o:Oper}{fr:Tr V}{v:V}{cZ:af}{gY:Nat}{h0:Tr O}{c0:Nat}{dz:List xy}:
  ∀k,k<=dz.length->qi P n0 i o fr v cZ gY (tg h0 c0 dz k)=true->∀c,c<k->(∀(c':Nat) (e:xy),c<=c'->c'<k->dz[c']? =some e->ee gY e.1=false)->
   ∃y,dD P o fr (gL n0 cZ (eD h0 c0 dz c).1 (eD h0 c0 dz c).2.1 gY) (n0+i)=some (.val v y (n0+i))
 |0,_,_,c,hc,_=>by omega
 |k+1,hk,h,c,hc,hn=>by
  have he:dz[k]? =some dz[k]:=ay be;simp only[tg,he,qi]at h;have hb:=hn k dz[k] be be he;rw[hb]at h;simp only[aO,cG,aC]at h;by_cases q:c=k
  . subst q;exact yP h.1
  . exact EK k be h.2 c be fun c' e h1 h2 h3=>hn c' e h1 be h3
theorem Cz{P:Program}{n0:Nat}{cZ:af}{m:Nat}{x:Tr O}:∀(l:List (Nat×Nat×Oper×Tr V×V)),pI P n0 cZ m x l=true->
  ∀j gY o fr v,(j,gY,o,fr,v)∈l->ee m j=false->∃y,dD P o fr (gL n0 cZ m x gY) (n0+j)=some (.val v y (n0+j))
 | [],_,j,gY,o,fr,v,hm,_=>by simp at hm
 |(j',asp,o',fr',v')::l,h,j,gY,o,fr,v,hm,hb=>by
  simp only[pI,aC,bT]at h;rcases aE.1 hm with q|q
  . cases q;rcases h.1 with h1|h1
    . rw[hb]at h1;cases h1
    . exact yP h1
  . exact Cz l h.2 j gY o fr v q hb
section
variable{P:Program}{cf:fO}{ops:Array Oper}{n0 N:Nat}{h0:Tr O}{kg:Tr V}
section
variable{val iM:Nat->V}{j i:Nat}{fr:Tr V}
theorem Ab.mono(h:Ab ops kg val j fr)(hv:∀k,k<j->iM k=val k):Ab ops kg iM j fr:=
 ⟨fun i o t hi ho hd=>by rw[hv i hi];exact h.new i o t hi ho hd,h.old⟩
theorem Ab.step{fr':Tr V}{o:Oper}{v:V}(hr:mP ops N)(ho:ops[i]? =some o)(h:Ab ops kg val i fr)(hv:∀k,k<i->iM k=val k)(hi:iM i=v)
  (e:iZ fr o.dst v=some fr'):Ab ops kg iM (i+1) fr':=by
 have h':=h.mono hv;cases hd:o.dst with
 |none=>
  rw[hd]at e;simp only[iZ,an]at e;subst e;refine⟨fun k q t hk hq ht=>?_,fun t ht=>h'.old t fun k q hk hq=>ht k q be hq⟩;by_cases c:k=i
  . subst c;rw[ho]at hq;cases hq;rw[hd]at ht;cases ht
  . exact h'.new k q t be hq ht
 |some d=>
  rw[hd]at e;simp only[iZ]at e;split at e
  . rename_i gH;obtain rfl:=ew e;refine⟨fun k q t hk hq ht=>?_,fun t ht=>?_⟩
    . by_cases c:k=i
      . subst c;rw[ho]at hq;cases hq;rw[hd]at ht;cases ht;rw[Tr.mY _ _ gH,hi]
      . have fP:t≠d:=by
         intro q';subst q';exact c (hr.one k i q o t hq ho ht hd)
        rw[Tr.qj _ _ gH fP];exact h'.new k q t be hq ht
    . have fP:t≠d:=by intro q;subst q;exact ht i o be ho hd
      rw[Tr.qj _ _ gH fP];exact h'.old t fun k q hk hq=>ht k q be hq
  . cases e
theorem Ze{he:vW ops}{j i:Nat}(h:j<=i):ee (l7 ops j) i=false:=by
 cases q:ee (l7 ops j) i with
 |false=>rfl
 |true=>have:=Ks he j i q;omega
end
theorem rV.mono{val iM:Nat->V}{j:Nat}{o:Oper}{b:O}(h:rV P ops n0 kg val j o b)(hv:∀k,k<=j->iM k=val k):rV P ops n0 kg iM j o b:=by
 obtain⟨fr,f1,f2,f3,f4,f6,f5⟩:=h;exact⟨fr,f1.mono fun k hk=>hv k be,f2,f3,f4,f6,fun y=>by rw[hv j (aA _)];exact f5 y⟩
section
variable{val iM:Nat->V}{cZ:af}{reads:List (Nat×Nat×Oper×Tr V×V)}{dz:List xy}
theorem uV.quiet{kT:af}{reads xA:List (Nat×Nat×Oper×Tr V×V)}{dz:List xy}{j:Nat}{o:Oper}
  (h:uV P cf ops n0 h0 kg val cZ reads dz j o) (hv:∀k,k<=j->iM k=val k) (ha:∀x∈cZ,x∈kT) (hr:∀x∈reads,x∈xA)
  (Mu:∀m x,gL n0 kT m x (l7 ops j)=gL n0 cZ m x (l7 ops j)):uV P cf ops n0 h0 kg iM kT xA dz j o:=by
 obtain⟨fr,f1,f2⟩:=h;refine⟨fr,f1.mono fun k hk=>hv k be,?_⟩;have hj:=hv j (aA _);rw[hj];rcases f2 with q|⟨q1,q2,b,q3,q4,q5⟩|q|⟨q1,q2,q3,q4⟩|⟨q1,q2,c,h,n,q3,q4⟩
 . exact .inl q
 . exact .inr (.inl ⟨q1,q2,b,ha _ q3,q4,q5⟩)
 . exact .inr (.inr (.inl q))
 . refine .inr (.inr (.inr (.inl ⟨q1,q2,hr _ q3,fun c hc h1 h2=>?_⟩)));rw[Mu];exact q4 c hc h1 h2
 . refine .inr (.inr (.inr (.inr ⟨q1,q2,c,h,n,q3,?_⟩)));simp only[Mu];exact q4
theorem uV.effect{e:xy}{j:Nat}{o:Oper}
  (h:uV P cf ops n0 h0 kg val cZ reads dz j o) (hv:∀k,k<=j->iM k=val k) (ic:pI P n0 cZ e.2.1 e.2.2.1 reads=true):
  uV P cf ops n0 h0 kg iM cZ reads (dz++[e]) j o:=by
 obtain⟨fr,f1,f2⟩:=h;refine⟨fr,f1.mono fun k hk=>hv k be,?_⟩;have hj:=hv j (aA _);rw[hj];rcases f2 with q|q|q|⟨q1,q2,q3,q4⟩|⟨q1,q2,c,h,n,q3,q4⟩
 . exact .inl q
 . exact .inr (.inl q)
 . exact .inr (.inr (.inl q))
 . refine .inr (.inr (.inr (.inl ⟨q1,q2,q3,fun c hc h1 h2=>?_⟩)));simp only[ax,aT,bO]at hc;by_cases cl:c<=dz.length
   . rw[qp cl];refine q4 c cl (fun c' e' vX Bv=>h1 c' e' vX ?_) (fun c' e' vX Bv=>h2 c' e' vX ?_)
     . rw[bz (aF.1 Bv).1];exact Bv
     . rw[bz (aF.1 Bv).1];exact Bv
   . have rT:c=dz.length+1:=by omega
     subst rT;rw[xz];exact Cz reads ic j _ o fr _ q3 (h2 dz.length e be (by simp))
 . have hc:=(aF.1 q3).1;refine .inr (.inr (.inr (.inr ⟨q1,q2,c,h,n,by rw[bz hc];exact q3,?_⟩)));rw[qp be];exact q4
end
section
variable{val:Nat->V}{dz:List xy}{i:Nat}
theorem N5{d:Dr}(hr:mP ops N)(f:oC P cf ops n0 h0 kg val dz i d)(hl:zR (l7 ops i) d.last=true):
  ∀(c:Nat) (e:xy),dz[c]? =some e->ee (l7 ops i) e.1=true:=by
 intro c e he;have hc:=(aF.1 he).1;rw[f.last]at hl;have hg:dz.getLast? =some (dz[dz.length-1]'(by omega)):=by
  rw[List.getLast?_eq_getElem?,ay]
 rw[hg]at hl;simp only[bh,zR]at hl;by_cases q:c=dz.length-1
 . subst q;rw[ay be]at he;cases he;exact hl
 . exact EJ hr.yO i _ _ hl (f.chain (dz.length-1) c _ e be (ay be) he)
theorem EL{d d':Dr}{o:Oper}{v:V}{h:Tr O}{n:Nat}(hr:mP ops N)(ho:ops[i]? =some o)(f:oC P cf ops n0 h0 kg val dz i d)
  (hw:iA ops o d.fr=some true) (CA:qQ o.op=true) (hl:zR (l7 ops i) d.last=true) (ha:kF P n0 i (l7 ops i) o d v h n=some d')
  (hm:pn (ops.toList.take (i+1))=d.ek++[l7 ops i])
  (run:(dD P o d.fr (gL n0 d.cZ d.cur.1 d.cur.2 (l7 ops i)) d.n=some (.val v h n)) \/
   ∃g args,dD P o d.fr (gL n0 d.cZ d.cur.1 d.cur.2 (l7 ops i)) d.n=some (.call g args)/\cf g args (gL n0 d.cZ d.cur.1 d.cur.2 (l7 ops i)) d.n=some (.ret v,h,n)):
  ∃iM uY,oC P cf ops n0 h0 kg iM uY (i+1) d':=by
 unfold kF at ha;split at ha
 . rename_i fr hp;split at ha
   . rename_i ic;obtain rfl:=ew ha
     let iM:Nat->V:=fun k=>if k=i then v else val k
     have Ih:iM i=v:=by simp[iM]
     have hv:∀k,k<i->iM k=val k:=fun k hk=>by simp[iM,show k≠i by omega]
     refine⟨iM,dz++[(i,l7 ops i,h,n)],?_⟩;have iT:(dz++[(i,l7 ops i,h,n)]).length=dz.length+1:=by simp
     refine⟨hm.symm,f.fr.step hr ho hv Ih hp,?_,?_,?_,by simp,?_,fun x hx=>by have:=f.cZ x hx;omega,f.one,fun c e q he hq=>?_,fun j q b hb hq=>(f.BF j q b hb hq).mono fun k hk=>hv k (by have:=f.cZ _ hb;simp at this;omega),?_,?_⟩
     . rw[iT,xz]
     . rw[iT,xz]
     . rw[iT];simp only[tg];rw[cj be];simp only[Nat.sub_self,bG];rw[qp (aA _),AU _ (aA _),<- f.pH,f.cur]
     . intro c e he;by_cases q:c<dz.length
       . rw[bz q]at he;obtain⟨h1,h2⟩:=f.uW c e he;exact⟨be,h2⟩
       . have hc:=(aF.1 he).1;simp at hc;have:c=dz.length:=by omega
         subst this;simp at he;subst he;exact⟨by simp,o,ho,CA,rfl⟩
     . by_cases q2:c<dz.length
       . rw[bz q2]at he;obtain⟨h1,_⟩:=f.uW c e he;obtain⟨xB,g1,g2⟩:=f.Ac c e q he hq;exact⟨xB,g1.mono fun k hk=>hv k be,g2⟩
       . have hc:=(aF.1 he).1;simp at hc;have:c=dz.length:=by omega
         subst this;simp at he;subst he;simp only at hq;rw[ho]at hq;cases hq;exact⟨d.fr,f.fr.mono hv,hw⟩
     . intro c c' e e' TW he Bv;have hc:=(aF.1 he).1;simp at hc;have vX:c'<dz.length:=by omega
       rw[bz vX]at Bv;by_cases q:c<dz.length
       . rw[bz q]at he;exact f.chain c c' e e' TW he Bv
       . have:c=dz.length:=by omega
         subst this;simp at he;subst he;exact N5 hr f hl c' e' Bv
     . intro j q hj hq;by_cases c:j=i
       . subst c;rw[ho]at hq;cases hq;refine⟨d.fr,f.fr.mono hv,.inr (.inr (.inr (.inr ⟨hw,CA,dz.length,h,n,by simp,?_⟩)))⟩;rw[qp (aA _),Ih];have adJ:=f.cur;have hn:=f.n;have e1:d.cur.1=(eD h0 (n0+ops.size) dz dz.length).1:=by rw[adJ]
         have e2:d.cur.2=(eD h0 (n0+ops.size) dz dz.length).2.1:=by rw[adJ]
         rw[e1,e2,hn]at run;exact run
       . exact(f.Zd j q be hq).effect (fun k hk=>hv k be) ic
   . cases ha
 . cases ha
theorem Ku{d d':Dr}{o:Oper}(hr:mP ops N)(ho:ops[i]? =some o)(f:oC P cf ops n0 h0 kg val dz i d)
  (e:uG P cf ops n0 i o d=some (.inl d')):∃iM uY,oC P cf ops n0 h0 kg iM uY (i+1) d':=by
 have hi:i<ops.size:=(aQ.1 ho).1;have Bw:eM d.ek o.after.toList=l7 ops i:=by rw[f.ek];unfold l7;rw[ho]
 have hm:pn (ops.toList.take (i+1))=d.ek++[l7 ops i]:=by
  rw[EI (by rw[bK];exact ho),Cv,<- f.ek,Bw]
 unfold uG at e;simp only[Bw]at e;have vY:∀(v:V) (fr:Tr V) (kT:af) (xA:List (Nat×Nat×Oper×Tr V×V)),iZ d.fr o.dst v=some fr->(∀x∈d.cZ,x∈kT)->(∀x∈d.reads,x∈xA)->
   (∀j m x,j<=i->gL n0 kT m x (l7 ops j)=gL n0 d.cZ m x (l7 ops j))->(∀x∈kT,x.1<i+1)->(∀j b b',(j,b)∈kT->(j,b')∈kT->b=b')->
   (∀iM,(∀k,k<i->iM k=val k)->iM i=v->∀b,(i,b)∈kT->rV P ops n0 kg iM i o b)->(∀x∈kT,x.1≠i->x∈d.cZ)->
   (∀iM,(∀k,k<i->iM k=val k)->iM i=v->uV P cf ops n0 h0 kg iM kT xA dz i o)->
   ∃iM uY,oC P cf ops n0 h0 kg iM uY (i+1) { d with fr:=fr,ek:=d.ek++[l7 ops i],cZ:=kT,reads:=xA }:=by
  intro v fr kT xA hp ha Zf Mu hai Ke Qh ajv oW
  let iM:Nat->V:=fun k=>if k=i then v else val k
  have Ih:iM i=v:=by simp[iM]
  have hv:∀k,k<i->iM k=val k:=fun k hk=>by simp[iM,show k≠i by omega]
  refine⟨iM,dz,⟨hm.symm,f.fr.step hr ho hv Ih hp,f.cur,f.n,f.pH,f.last,fun c e he=>?_,hai,Ke,fun c e q he hq=>?_,fun j q b hb hq=>?_,f.chain,fun j q hj hq=>?_⟩⟩
  . obtain⟨h1,h2⟩:=f.uW c e he;exact⟨be,h2⟩
  . obtain⟨h1,_⟩:=f.uW c e he;obtain⟨xB,g1,g2⟩:=f.Ac c e q he hq;exact⟨xB,g1.mono fun k hk=>hv k be,g2⟩
  . by_cases c:j=i
    . subst c;rw[ho]at hq;cases hq;exact Qh iM hv Ih b hb
    . have Gi:=ajv _ hb c;exact(f.BF j q b Gi hq).mono fun k hk=>hv k (by have:=f.cZ _ Gi;simp at this;omega)
  . by_cases c:j=i
    . subst c;rw[ho]at hq;cases hq;exact oW iM hv Ih
    . exact(f.Zd j q be hq).quiet (fun k hk=>hv k be) ha Zf fun m x=>Mu j m x be
 have e1:d.cur.1=(eD h0 (n0+ops.size) dz dz.length).1:=by rw[f.cur]
 have e2:d.cur.2=(eD h0 (n0+ops.size) dz dz.length).2.1:=by rw[f.cur]
 split at e
 . rename_i hw;split at e
   . rename_i fr hp;simp only[an,Sum.inl.injEq]at e;subst e;exact vY (.ef []) fr d.cZ d.reads hp (fun _ h=>h) (fun _ h=>h) (fun _ _ _ _=>rfl) (fun x hx=>by have:=f.cZ x hx;omega) f.one (fun _ _ _ b hb=>by have:=f.cZ _ hb;simp at this) (fun _ hx _=>hx)
      fun iM hv Ih=>⟨d.fr,f.fr.mono hv,.inl ⟨hw,Ih⟩⟩
   . cases e
 . rename_i hw;split at e
   . rename_i CA;split at e
     . rename_i hl;split at e
       . rename_i v h n hs;split at e
         . rename_i s' ha;simp only[an,Sum.inl.injEq]at e;subst e;exact EL hr ho f hw CA hl ha hm (.inl hs)
         . cases e
       . rename_i g args hs;split at e
         . rename_i v h n hc;split at e
           . rename_i s' ha;simp only[an,Sum.inl.injEq]at e;subst e;exact EL hr ho f hw CA hl ha hm (.inr ⟨g,args,hs,hc⟩)
           . cases e
         . split at e
           . cases e
           . cases e
         . cases e
       . cases e
     . cases e
   . rename_i CA;have Ii:qQ o.op=false:=by simpa using CA
     split at e
     . rename_i v h k hs;split at e
       . rename_i fr hp;have hq:=quiet Ii hs;split at e
         . rename_i hk;have uj:=aD hk;subst uj;split at e
           . rename_i adK;simp only[an,Sum.inl.injEq]at e;subst e;obtain⟨u,h1,h2⟩:=Ie adK hs;cases h1;exact vY v fr d.cZ d.reads hp (fun _ h=>h) (fun _ h=>h) (fun _ _ _ _=>rfl) (fun x hx=>by have:=f.cZ x hx;omega) f.one (fun _ _ _ b hb=>by have:=f.cZ _ hb;simp at this) (fun _ hx _=>hx)
              fun iM hv Ih=>⟨d.fr,f.fr.mono hv,.inr (.inr (.inl ⟨hw,Ii,fun y=>by rw[Ih];exact h2 y _⟩))⟩
           . split at e
             . rename_i pH;simp only[an,Sum.inl.injEq]at e;subst e;refine vY v fr d.cZ ((i,l7 ops i,o,d.fr,v)::d.reads) hp (fun _ h=>h) (fun x hx=>by simp[hx]) (fun _ _ _ _=>rfl) (fun x hx=>by have:=f.cZ x hx;omega) f.one (fun _ _ _ b hb=>by have:=f.cZ _ hb;simp at this) (fun _ hx _=>hx)
                fun iM hv Ih=>⟨d.fr,f.fr.mono hv,.inr (.inr (.inr (.inl ⟨hw,Ii,by simp[Ih],fun c hc h1 _=>?_⟩)))⟩
               rw[Ih];by_cases q:c=dz.length
               . subst q;rw[<- e1,<- e2];exact⟨h,hs⟩
               . rw[f.pH]at pH;exact EK dz.length (aA _) pH c be fun c' e' q1 _ q3=>h1 c' e' q1 q3
             . cases e
         . rename_i hk;split at e
           . rename_i b hb;split at e
             case isFalse=>cases e
             rename_i hwr;simp only[an,Sum.inl.injEq]at e;subst e;rcases hq with⟨u,h1,_⟩|⟨u,b',h1,h2,h3⟩
             . cases h1;exact absurd (cM _) hk
             . cases h2;rw[Tr.mY _ _ h1]at hb;cases hb;refine vY v fr ((i,b)::d.cZ) d.reads hp (fun x hx=>by simp[hx]) (fun _ h=>h) (fun j m x hj=>N4 (Ze (he:=hr.yO) hj)) (fun x hx=>?_) (fun j c c' hc vX=>?_) (fun iM hv Ih c hc=>?_) (fun x hx fP=>?_)
                fun iM hv Ih=>⟨d.fr,f.fr.mono hv,.inr (.inl ⟨hw,Ii,b,by simp,h1,fun y=>by rw[Ih];exact h3 y⟩)⟩
               . rcases aE.1 hx with rfl|hx
                 . simp
                 . have:=f.cZ x hx;omega
               . rcases aE.1 hc with q|q<;>rcases aE.1 vX with q'|q'
                 . cases q;cases q';rfl
                 . cases q;have:=f.cZ _ q';simp at this
                 . cases q';have:=f.cZ _ q;simp at this
                 . exact f.one j c c' q q'
               . rcases aE.1 hc with q|q
                 . cases q;exact⟨d.fr,f.fr.mono hv,hw,Ii,h1,hwr,fun y=>by rw[Ih];exact h3 y⟩
                 . have:=f.cZ _ q;simp at this
               . rcases aE.1 hx with q|q
                 . cases q;exact absurd rfl fP
                 . exact q
           . cases e
       . cases e
     . cases e
 . cases e
end
theorem Kv(fr:Tr V)(h:Tr O):oC P cf ops n0 h fr (fun _=>.kE) [] 0 { fr:=fr,ek:=[],cur:=(0,h),pH:=[],last:=none,cZ:=[],reads:=[],n:=n0+ops.size }:=by
 refine⟨by simp[pn],⟨fun i o t hi=>by omega,fun t _=>rfl⟩,rfl,rfl,rfl,rfl,fun c e he=>by simp at he,fun x hx=>by simp at hx,fun j b b' hb=>by simp at hb,fun c e o he=>by simp at he,fun j o b hb=>by simp at hb,fun c c' e e' _ he=>by simp at he,fun j o hj=>by omega⟩
theorem EM(hr:mP ops N):∀(l:List Oper) (i:Nat) (d:Dr) (val:Nat->V) (dz:List xy) (r:Dr ⊕ (Tr V×V×Tr O×Nat)),l=ops.toList.drop i->oC P cf ops n0 h0 kg val dz i d->
  qR P cf ops n0 l i d=some r->
  match r with
  | .inl d'=>∃iM uY,oC P cf ops n0 h0 kg iM uY (max i ops.size) d'
  | .inr x=>∃j o d' iM uY,ops[j]? =some o/\oC P cf ops n0 h0 kg iM uY j d'/\uG P cf ops n0 j o d'=some (.inr x)
 | [],i,d,val,dz,r,hl,f,e=>by
   simp only[qR,an]at e;subst e;have hi:ops.size<=i:=by
    have:=aN List.length hl;simp at this;omega
   rw[Nat.max_eq_left hi];exact⟨val,dz,f⟩
 |o::l,i,d,val,dz,r,hl,f,e=>by
  have hi:i<ops.size:=by
   have:=aN List.length hl;simp at this;omega
  have ho:ops[i]? =some o:=by
   have:=aN (fun x=>x[0]?) hl;simp at this;exact this.symm
  have hl':l=ops.toList.drop (i+1):=by
   have:=aN List.tail hl;simpa using this
  simp only[qR]at e;split at e
  . rename_i s' hs;obtain⟨iM,uY,f'⟩:=Ku hr ho f hs;have:=EM hr l (i+1) s' iM uY r hl' f' e;cases r with
    |inl d'=>rw[show max (i+1) ops.size=max i ops.size by omega]at this;exact this
    |inr x=>exact this
  . rename_i x hx;cases r with
    |inl d'=>exact absurd e (hx d')
    |inr y=>exact⟨i,o,d,val,dz,ho,f,e⟩
end
theorem Good.ext{E:Env}{h h':Tr O}{w:World}(g:Good E h w)(e:∀k,h'.get k=h.get k):Good E h' w:=g.sub fun m o q=>by rw[<- e];exact q
theorem iy.ext{E E':Env}{h h' h2:Tr O}{w w':World}(u:iy E h w E' h' w')(e:∀k,h2.get k=h'.get k):iy E h w E' h2 w':=
 ⟨u.le,u.good.ext e,u.size,u.tape,u.os,u.output,u.keep,fun m b s hm q hb=>let⟨m0,s0,a1,a2,a3⟩:=u.sV m b s (by rw[<- e];exact hm) q hb;⟨m0,s0,a1,a2,fun c=>a3 (PS (e m) c)⟩,u.DU⟩
theorem iy.frame{E E':Env}{h x y z:Tr O}{w w':World}(g:Good E h w)(hx:Sub x h)(u:iy E x w E' y w')
  (hz:∀k,z.get k=match y.get k with|some o=>some o|none=>if x.get k=none then h.get k else none):iy E h w E' z w':=by
 have rest:∀k o,h.get k=some o->x.get k=none->∃b s,E.ι k=some (b,s)/\E'.ι k=some (b,s)/\E'.β b=E.β b/\b<w.heap.size/\w'.heap[b]? =w.heap[b]?/\(∀m s',eC y m->E'.ι m≠some (b,s'))/\(o.wr=true->∀m s',y.get m≠none->E'.ι m≠some (b,s'))/\lY E w b s o:=by
  intro k o hk hxk;obtain⟨b,s,h1,h2⟩:=g.rel k o hk;have hb:=g.mU k b s h1;have fP:∀m,x.get m≠none->m≠k:=by intro m hm e;subst e;exact hm hxk
  have rU:∀m s',eC x m->E.ι m≠some (b,s'):=by
   intro m s' hm q;exact g.inj m k b s' s (fP m hm.live) (gr hx hm) (by rw[hk];simp) q h1
  have ajy:o.wr=true->∀m s',x.get m≠none->E.ι m≠some (b,s'):=by
   intro ho m s' hm q;exact g.inj k m b s s' (fun e=>fP m hm e.symm) ⟨o,hk,ho⟩ (nc hx hm) h1 q
  refine⟨b,s,h1,(u.le.nm k b s h1).1,(u.le.nm k b s h1).2,hb,u.keep b hb rU,?_,?_,h2⟩
  . intro m s' hm q;obtain⟨m0,s0,a1,a2,a3⟩:=u.sV m b s' hm.live q hb;exact rU m0 s0 (a3 hm) a2
  . intro ho m s' hm q;obtain⟨m0,s0,a1,a2,a3⟩:=u.sV m b s' hm q hb;exact ajy ho m0 s0 a1 a2
 have zc:∀k o,z.get k=some o->y.get k=some o\/(y.get k=none/\x.get k=none/\h.get k=some o):=by
  intro k o q;rw[hz]at q;split at q
  . rename_i o' hy;cases q;exact .inl hy
  . rename_i hy;split at q
    . rename_i Pv;exact .inr ⟨hy,Pv,q⟩
    . cases q
 have old:∀k o b s,h.get k=some o->o.wr=true->x.get k=none->E.ι k=some (b,s)->∀c,E'.φ b≠some c:=by
  intro k o b s hk ho hxk e c hc;rcases u.DU b c hc with q|q|⟨m,s',q1,q2⟩
  . exact(g.gM b c q).2 k s ⟨o,hk,ho⟩ e
  . have:=g.mU k b s e;omega
  . exact g.inj m k b s' s (fun q=>by subst q;exact q1.live hxk) (gr hx q1) (by rw[hk];simp) q2 e
 refine⟨u.le,⟨?_,?_,u.good.mU,u.good.jm,fun b c hc=>⟨(u.good.gM b c hc).1,fun m s hm e=>?_⟩⟩,u.size,u.tape,u.os,u.output,?_,?_,?_⟩
 case refine_3=>
  obtain⟨o,hm,ho⟩:=hm;rcases zc m o hm with ym|⟨ym,Pv,hh⟩
  . exact(u.good.gM b c hc).2 m s ⟨o,ym,ho⟩ e
  . obtain⟨b',t,h1,h2,_⟩:=rest m o hh Pv;rw[h2]at e;cases e;exact old m o b s hh ho Pv h1 c hc
 case refine_6=>
  intro b c hc;rcases u.DU b c hc with q|q|⟨m,s,q1,q2⟩
  . exact .inl q
  . exact .inr (.inl q)
  . exact .inr (.inr ⟨m,s,gr hx q1,q2⟩)
 . intro m o hm;rcases zc m o hm with hy|⟨hy,Pv,hm⟩
   . exact u.good.rel m o hy
   . obtain⟨b,s,h1,h2,h3,h4,h5,h6,h6',h7⟩:=rest m o hm Pv;exact⟨b,s,h2,ik u.le h3 h5 h7⟩
 . intro m m' b s s' fP hm sW e e';obtain⟨o,hm,ho⟩:=hm;obtain⟨o',sW⟩:=bg.1 sW;rcases zc m o hm with ym|⟨ym,Pv,hh⟩
   . rcases zc m' o' sW with ym'|⟨ym',Zg,hh'⟩
     . exact u.good.inj m m' b s s' fP ⟨o,ym,ho⟩ (by rw[ym'];simp) e e'
     . obtain⟨b',t,h1,h2,h3,h4,h5,h6,h6',h7⟩:=rest m' o' hh' Zg;rw[h2]at e';cases e';exact h6 m s ⟨o,ym,ho⟩ e
   . obtain⟨b',t,h1,h2,h3,h4,h5,h6,h6',h7⟩:=rest m o hh Pv;rw[h2]at e;cases e;rcases zc m' o' sW with ym'|⟨ym',Zg,hh'⟩
     . exact h6' ho m' s' (by rw[ym'];simp) e'
     . obtain⟨b2,t2,k1,k2,_⟩:=rest m' o' hh' Zg;rw[k2]at e';cases e';exact g.inj m m' _ _ _ fP ⟨o,hh,ho⟩ (by rw[hh'];simp) h1 k1
 . intro b hb hn;exact u.keep b hb fun m s hm=>hn m s (gr hx hm)
 . intro m b s hm e hb;obtain⟨o,hm⟩:=bg.1 hm;have hw:eC z m->o.wr=true:=by rintro⟨o2,q1,q2⟩;rw[hm]at q1;cases q1;exact q2
   rcases zc m o hm with ym|⟨ym,Pv,hh⟩
   . obtain⟨m0,s0,a1,a2,a3⟩:=u.sV m b s (by rw[ym];simp) e hb;exact⟨m0,s0,nc hx a1,a2,fun q=>gr hx (a3 ⟨o,ym,hw q⟩)⟩
   . obtain⟨b',t,h1,h2,_⟩:=rest m o hh Pv;rw[h2]at e;cases e;exact⟨m,_,by rw[hh];simp,h1,fun q=>⟨o,hh,hw q⟩⟩
theorem CB{n0:Nat}{m:Nat}{x:Tr O}{gY k:Nat}:∀(l:af),(∀y∈l,n0+y.1<fN)->
  (gL n0 l m x gY).get k=match l.find? (fun y=>Nat.beq (n0+y.1) k&&ee gY y.1&& !ee m y.1)with|some y=>some y.2|none=>x.get k
 | [],_=>rfl
 |(i,o)::l,ht=>by
  have ih:=CB (k:=k) (m:=m) (x:=x) (gY:=gY) l fun y hy=>ht y (by simp[hy]);simp only[gL];by_cases hb:(ee gY i&& !ee m i)=true
  . rw[aG hb,Tr.eS _ _ _ (ht (i,o) (by simp))];by_cases q:k=n0+i
    . subst q;rw[aG rfl,List.find?_cons_of_pos (by simp only[cM,Bool.true_and];exact hb)]
    . rw[aI q,ih,List.find?_cons_of_neg];have:Nat.beq (n0+i) k=false:=by
       cases hh:Nat.beq (n0+i) k with
       |false=>rfl
       |true=>exact absurd (aD hh).symm q
      simp[this]
  . rw[aI hb,ih,List.find?_cons_of_neg];intro q;simp only[Bool.and_assoc]at q;rw[aC]at q;exact hb q.2
section
variable{n0 m:Nat}{x:Tr O}
theorem jF{gY i:Nat}{b:O}{l:af}(ht:∀y∈l,n0+y.1<fN)(one:∀(j:Nat) (b b':O),(j,b)∈l->(j,b')∈l->b=b')(hi:(i,b)∈l)
  (ha:ee gY i=true) (hm:ee m i=false):(gL n0 l m x gY).get (n0+i)=some b:=by
 rw[CB l ht];cases hf:l.find? (fun y=>Nat.beq (n0+y.1) (n0+i)&&ee gY y.1&& !ee m y.1)with
 |none=>
  have:=List.find?_eq_none.1 hf (i,b) hi;simp[cM,ha,hm]at this
 |some y=>
  have h1:=List.mem_of_find?_eq_some hf;have h2:=List.find?_some hf;simp only[aC]at h2;have h3:=aD h2.1.1;have h4:y.1=i:=by omega
  obtain⟨y1,y2⟩:=y;simp only at h4;subst h4;simp only[one y1 y2 b h1 hi]
theorem qt{gY k:Nat}{l:af}(ht:∀y∈l,n0+y.1<fN)(h:∀i b,(i,b)∈l->ee gY i=true->ee m i=false->k≠n0+i):(gL n0 l m x gY).get k=x.get k:=by
 rw[CB l ht];cases hf:l.find? (fun y=>Nat.beq (n0+y.1) k&&ee gY y.1&& !ee m y.1)with
 |none=>rfl
 |some y=>
  have h1:=List.mem_of_find?_eq_some hf;have h2:=List.find?_some hf;simp only[aC,Bool.not_eq_true']at h2;exact absurd (aD h2.1.1).symm (h y.1 y.2 h1 h2.1.2 h2.2)
theorem jo{gY:Nat}{l:af}(ht:∀y∈l,n0+y.1<fN)(one:∀(j:Nat) (b b':O),(j,b)∈l->(j,b')∈l->b=b')(k:Nat):
  (∃i b,(i,b)∈l/\ee gY i=true/\ee m i=false/\k=n0+i/\(gL n0 l m x gY).get k=some b) \/
  ((∀i b,(i,b)∈l->ee gY i=true->ee m i=false->k≠n0+i)/\(gL n0 l m x gY).get k=x.get k):=by
 by_cases h:∃i b,(i,b)∈l/\ee gY i=true/\ee m i=false/\k=n0+i
 . obtain⟨i,b,h1,h2,h3,rfl⟩:=h;exact .inl ⟨i,b,h1,h2,h3,rfl,jF ht one h1 h2 h3⟩
 . have h':∀i b,(i,b)∈l->ee gY i=true->ee m i=false->k≠n0+i:=fun i b h1 h2 h3 q=>h ⟨i,b,h1,h2,h3,q⟩;exact .inr ⟨h',qt ht h'⟩
end
def N6(E:Env):X->Exit->Prop
 | .normal,.normal=>True
 | .exit i,.exit j=>i=j
 | .ret,.ret=>True
 | .panic v,.panic chain=>∃v',dF E v v'/\chain=[{ v:=v',recovered:=false }]
 |_,_=>False
section
variable{P:Program}{cf:fO}{ops:Array Oper}{n0 N lA:Nat}{h0:Tr O}{kg:Tr V}{val:Nat->V}{dz:List xy}{d:Dr}{E0:Env}{w0:World}{Bx:List Deferred}
structure Inv(ops:Array Oper)(n0 N lA:Nat)(h0:Tr O)(kg:Tr V)(val:Nat->V)(dz:List xy)(cZ:af)(E0:Env)(w0:World)(Bx:List Deferred)
  (S:Nat->Bool) (ms J:Nat) (E:Env) (a:Act) (w:World):Prop where
 bits:∀i,ee ms i=S i
 Ur:∀i,S i=true->i<lA
 closed:∀(j:Nat) (o:Oper),S j=true->ops[j]? =some o->∀e∈o.after,Region.binds .any e=true->S e.on=true
 Gj:∀(c:Nat) (e:xy),dz[c]? =some e->(S e.1=true↔c<J)
 Jle:J<=dz.length
 f1:∀(j:Nat) (o:Oper) (t:Nat),S j=true->ops[j]? =some o->o.dst=some t->∃v',a.tmps[t]? =some v'/\dF E (val j) v'
 f2:∀(t:Nat) (v:V),kg.get t=some v->(∀(j:Nat) (o:Oper),S j=true->ops[j]? =some o->o.dst≠some t)->∃v',a.tmps[t]? =some v'/\dF E v v'
 qo:iy E0 h0 w0 E (gL n0 cZ (eD h0 (n0+ops.size) dz J).1 (eD h0 (n0+ops.size) dz J).2.1 ms) w
 old:∀k,k<n0->E.ι k=E0.ι k
 nZ:∀k p,E.ι k=some p->k<n0\/(∃i b,(i,b)∈cZ/\S i=true/\k=n0+i)\/(n0+ops.size<=k/\k<(eD h0 (n0+ops.size) dz J).2.2)
 free:∀i,i<ops.size->ee (eD h0 (n0+ops.size) dz J).1 i=false->(eD h0 (n0+ops.size) dz J).2.1.get (n0+i)=none
 yQ:n0+ops.size<=(eD h0 (n0+ops.size) dz J).2.2
 size:a.tmps.size=N
 gz:a.defers=Bx
theorem Inv.gY(hr:mP ops N){cZ:af}{S:Nat->Bool}{ms J:Nat}{E:Env}{a:Act}{w:World}(I:Inv ops n0 N lA h0 kg val dz cZ E0 w0 Bx S ms J E a w){j k:Nat}(hj:S j=true)(h:ee (l7 ops j) k=true):S k=true:=
 Cx hr.yO (S:=fun i=>S i=true) (fun j o hs ho e he hb=>I.closed j o hs ho e he hb) j k hj h
theorem vZ(hr:mP ops N){S:Nat->Bool}(hS:∀(j:Nat) (o:Oper),S j=true->ops[j]? =some o->∀e∈o.after,Region.binds .any e=true->S e.on=true){j k:Nat}{o:Oper}(ho:ops[j]? =some o)
  (hd:∀e∈o.after,Region.binds .any e=true->S e.on=true) (h:ee (l7 ops j) k=true):S k=true:=by
 obtain⟨e,h1,h2,h3⟩:=(yN hr.yO ho).1 h;rcases h3 with rfl|h3
 . exact hd e h1 h2
 . exact Cx hr.yO (S:=fun i=>S i=true) hS e.on k (hd e h1 h2) h3
theorem Inv.adN(hr:mP ops N)(f:oC P cf ops n0 h0 kg val dz lA d){S:Nat->Bool}{ms J:Nat}{E:Env}{a:Act}{w:World}
  (I:Inv ops n0 N lA h0 kg val dz d.cZ E0 w0 Bx S ms J E a w) {i:Nat} (h:ee (eD h0 (n0+ops.size) dz J).1 i=true):S i=true:=by
 cases J with
 |zero=>simp[eD,kj]at h
 |succ c=>
  have hc:c<dz.length:=by have:=I.Jle;omega
  have he:dz[c]? =some dz[c]:=ay hc;simp only[eD,he]at h;obtain⟨_,o,_,_,h3⟩:=f.uW c _ he;rw[h3]at h;exact I.gY hr ((I.Gj c _ he).2 be) h
theorem Inv.use(hr:mP ops N){cZ:af}{S:Nat->Bool}{ms J:Nat}{E:Env}{a:Act}{w:World}(I:Inv ops n0 N lA h0 kg val dz cZ E0 w0 Bx S ms J E a w)
  {j:Nat} {o:Oper} (ho:ops[j]? =some o) (hj:S j=false) (hd:∀e∈o.after,Region.binds .any e=true->S e.on=true) {fr:Tr V} (hf:Ab ops kg val j fr) {t:Nat} (ht:t∈uH ops o) {v:V} (hv:fr.get t=some v):
  ∃v',a.tmps[t]? =some v'/\dF E v v':=by
 by_cases h:∃i q,i<j/\ops[i]? =some q/\q.dst=some t
 . obtain⟨i,q,h1,h2,h3⟩:=h;have hu:=hr.use i j q o t h2 ho be h3 ht;rw[aG h1]at hu;have hi:=vZ hr I.closed ho hd hu;have:=hf.new i q t h1 h2 h3;rw[this]at hv;cases hv;exact I.f1 i q t hi h2 h3
 . have oA:=hf.old t fun i q hi hq hd=>h ⟨i,q,hi,hq,hd⟩;rw[oA]at hv;refine I.f2 t v hv fun i q hi hq TX=>?_;have fP:i≠j:=by intro e;subst e;rw[hj]at hi;cases hi
   have hu:=hr.use i j q o t hq ho fP TX ht;split at hu
   . rename_i fJ;exact h ⟨i,q,fJ,hq,TX⟩
   . have:=I.gY hr hi hu;rw[hj]at this;cases this
theorem Inv.uF(hr:mP ops N){cZ:af}{S:Nat->Bool}{ms J:Nat}{E:Env}{a:Act}{w:World}(I:Inv ops n0 N lA h0 kg val dz cZ E0 w0 Bx S ms J E a w)
  {j:Nat} {o:Oper} (ho:ops[j]? =some o) (hj:S j=false) (hd:∀e∈o.after,Region.binds .any e=true->S e.on=true) {fr:Tr V} (hf:Ab ops kg val j fr):∀x∈o.op.operands,mI E fr a.eval x:=by
 intro x hx v hv;cases x with
 |tmp t=>
  have ht:t∈uH ops o:=by
   unfold uH;refine cJ _ (List.mem_filterMap.2 ⟨.tmp t,by simpa using hx,rfl⟩)
  obtain⟨v',h1,h2⟩:=I.use hr ho hj hd hf ht hv;simp only[Act.eval,b7,h1];exact h2
 |const c=>exact zU hv
 |func f=>simp only[iK,an]at hv;subst hv;exact⟨_,[],[],rfl,rfl,rfl,rfl⟩
 |global g=>exact HL I.qo.good.jm hv
theorem Inv.wanted(hr:mP ops N){cZ:af}{S:Nat->Bool}{ms J:Nat}{E:Env}{a:Act}{w:World}(I:Inv ops n0 N lA h0 kg val dz cZ E0 w0 Bx S ms J E a w)
  {j:Nat} {o:Oper} (ho:ops[j]? =some o) (hj:S j=false) (hd:∀e∈o.after,Region.binds .any e=true->S e.on=true) {fr:Tr V} (hf:Ab ops kg val j fr) {b:Bool} (e:iA ops o fr=some b):
  Region.wanted o (yielded ops a.tmps)=b:=by
 refine xw (E:=E) (fun g J1 q t hg hq hdq v hv=>?_) e;have ht:t∈uH ops o:=by
  unfold uH;refine bZ _ ?_;simp only[hg,hq,hdq];simp
 exact I.use hr ho hj hd hf ht hv
theorem Inv.frame(hr:mP ops N){cZ:af}{S:Nat->Bool}{ms J:Nat}{E E':Env}{a:Act}{w:World}(I:Inv ops n0 N lA h0 kg val dz cZ E0 w0 Bx S ms J E a w)
  {j:Nat} {o:Oper} (ho:ops[j]? =some o) (kC:E.le E') {v':Value} (hv:dF E' (val j) v'):
  (∀(k:Nat) (q:Oper) (t:Nat),(S k||decide (k=j))=true->ops[k]? =some q->q.dst=some t->∃v2,(a.put o.dst v').tmps[t]? =some v2/\dF E' (val k) v2)/\
  (∀(t:Nat) (v:V),kg.get t=some v->(∀(k:Nat) (q:Oper),(S k||decide (k=j))=true->ops[k]? =some q->q.dst≠some t)->∃v2,(a.put o.dst v').tmps[t]? =some v2/\dF E' v v2):=by
 have ud:nj a.tmps.size o.dst:=by rw[I.size];exact hr.dst j o ho
 refine⟨fun k q t hk hq ht=>?_,fun t v Zh ht=>?_⟩
 . by_cases c:k=j
   . subst c;rw[ho]at hq;cases hq;have:=ud t ht;exact⟨v',by simp[Act.put,ht,this],hv⟩
   . have uj:S k=true:=by simpa[c]using hk
     obtain⟨v2,h1,h2⟩:=I.f1 k q t uj hq ht;refine⟨v2,?_,jl kC _ _ h2⟩;cases hd:o.dst with
     |none=>exact h1
     |some u=>
      have fP:u≠t:=by intro e;subst e;exact c (hr.one k j q o u hq ho ht hd)
      simp[Act.put,fP,h1]
 . obtain⟨v2,h1,h2⟩:=I.f2 t v Zh fun k q hk hq=>ht k q (by simp[hk]) hq;refine⟨v2,?_,jl kC _ _ h2⟩;cases hd:o.dst with
   |none=>exact h1
   |some u=>
    have fP:u≠t:=by intro e;subst e;exact ht j o (by simp) ho hd
    simp[Act.put,fP,h1]
end
end Go.Eng
