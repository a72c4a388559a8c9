/- Lemmas of the engine. No conditions. -/
import Derived.Test.YtfihojpgobmmdaaGreatDoorJointW00
import Derived.Lib.UnsafeStr
import Derived.RangeFuncSeq
import Derived.TacticsIn
set_option linter.unusedVariables false
set_option linter.unusedSimpArgs false
set_option linter.unusedSectionVars false
namespace Go.Eng
open Go
section
variable{P:Program}{E:Env}{h:H lf}{n:Nat}{w:World}
theorem Cw(s:L):dL E (Cj s) (s.map fun b=>Value.int .u8 b.toNat):=by
 refine jG (by simp[Cj]) fun i v q=>?_;simp only[Cj,bu,Option.map_eq_some_iff]at q ⊢;obtain⟨b,q1,rfl⟩:=q;exact⟨_,⟨b,q1,rfl⟩,rfl⟩
theorem Cx(s:L):(ef s).map (V.int .u8)=Cj s:=by simp[ef,Cj]
theorem Cy{ks:List Int}{o T:Nat}{vs:List Value}(r:dL E (((ks.map (V.int .u8)).drop o).take T) vs):vs=((ks.drop o).take T).map (Value.int .u8):=by
 rw[<- List.map_drop,<- cN]at r;revert r;generalize (ks.drop o).take T=l;intro r
 induction l generalizing vs with
 |nil=>exact r
 |cons x l ih=>
  obtain⟨y,ys,r0,D,rfl⟩:=r;simp only[dK]at r0;subst r0;rw[ih D];rfl
theorem Kn{m b s:Nat}{t:L}(g:Good E h w)(hi:E.ι m=some (b,s))(e:uO (h.get m)=some t):∃c el fz xs,w.heap[b]? =some (.cells c el fz)/\s=0/\eT xs=t/\∀(j:Nat) (x:Int),xs[j]? =some x->c[j]? =some (.int .u8 x):=by
 unfold uO at e;split at e
 . rename_i el AW t' W;cases e;obtain⟨b',s',zX,c,fz,xs,N,B,_,_,h3,h4⟩:=g.rel m _ W;rw[hi]at zX;cases zX;exact⟨c,el,fz,xs,N,B,h3,h4⟩
 . cases e
theorem NT{m b s:Nat}{ks:List Int}(g:Good E h w)(hi:E.ι m=some (b,s))(e:AY (h.get m)=some ks):∃c el fz,w.heap[b]? =some (.cells c el fz)/\mz E s (ks.map (.int .u8)) c:=by
 unfold AY at e;split at e
 . rename_i Yc W;cases e;obtain⟨b',s',zX,c,el,fz,N,_,_,B⟩:=g.rel m _ W;rw[hi]at zX;cases zX;exact⟨c,el,fz,N,B⟩
 . rename_i Yc W;cases e;obtain⟨b',s',zX,c,el,fz,N,_,B⟩:=g.rel m _ W;rw[hi]at zX;cases zX;exact⟨c,el,fz,N,mS.2 B⟩
 . cases e
theorem Cz:∀(bs:ag) (s:L) (bs':List Value),ru bs=some s->dL E bs bs'->
  ∃ns:List Int,bs'=ns.map (Value.int .u8)/\s=ns.map fun n=>UInt8.ofNat n.toNat
 | [],s,bs',e,r=>by
   simp only[ru,an]at e;subst e;simp only[dL]at r;subst r;exact⟨[],rfl,rfl⟩
 |x::xs,s,bs',e,r=>by
  obtain⟨y,ys,rx,D,rfl⟩:=r;cases x with
  |int k m=>
   cases k<;>simp only[ru]at e<;>first|(cases e;done)|skip
   cases G:ru xs with
   |none=>simp[G]at e
   |some t=>
    simp only[G,an]at e;subst e;simp only[dK]at rx;subst rx;obtain⟨ns,N,B⟩:=Cz xs t ys G D;exact⟨m::ns,by simp[N],by simp[B]⟩
  |_=>simp[ru]at e
theorem tC:∀(ns:List Int) (r:ByteArray),ns.foldl (fun r n=>r.push (UInt8.ofNat n.toNat)) r=⟨r.data++(ns.map fun n=>UInt8.ofNat n.toNat).toArray⟩
 | [],r=>by simp
 |n::ns,r=>by
  simp only[List.foldl_cons];rw[tC ns];simp[ByteArray.push]
theorem Ko{Mr dst:TypeId}{x:V}{x':Value}{r:nx}(g:Good E h w)(hn:E.ι n=none)(rx:dK E x x')(e:qz P Mr dst x h n=some r):
  kz P E h n w (do pure (.value (<- convert Mr dst x'))) r:=by
 unfold qz at e;split at e
 . rename_i d k k' m N B;obtain rfl:=ek e;simp only[dK]at rx;subst rx;refine ee g (v':=.int k (k.wrap m)) ?_ rfl;simp[convert,dD N,dD B,Conv.intToInt]
 . rename_i d s N B;obtain rfl:=ek e;simp only[dK]at rx;subst rx;refine ee g (v':=.string ⟨s.toArray⟩) ?_ rfl;simp[convert,dD N,dD B]
 . rename_i el s N B;simp only[dK]at rx;subst rx;split at e
   . rename_i hu;cases ho:newObj h n (.own .u8 (ef s))with
     |none=>simp[ho]at e
     |some p=>
      obtain⟨h',n'⟩:=p;simp only[ho,an]at e;subst e;have l8:(⟨s.toArray⟩:ByteArray).size=s.length:=by show s.toArray.size=_;simp
      have fS:=run_bytes_of_string w Mr dst el ⟨s.toArray⟩ N B hu;rw[l8]at fS;have nP:s.length<=grownCap w s.length 0 el:=by simp only[grownCap,Question.cut];omega
      have I:(bytesRow ⟨s.toArray⟩ (grownCap w s.length 0 el)).size=grownCap w s.length 0 el:=by simp[bytesRow,l8];omega
      refine HY (r:=.is .u8 (ef s)) (w1:=w.drew) (c:=bytesRow ⟨s.toArray⟩ (grownCap w s.length 0 el)) (el:=el) (fz:=((bytesRow ⟨s.toArray⟩ (grownCap w s.length 0 el)).size,(bytesRow ⟨s.toArray⟩ (grownCap w s.length 0 el)).size+1)) (v':=.slice (some ⟨w.heap.size,0,none⟩) s.length (grownCap w s.length 0 el)) g hn trivial ho rfl rfl rfl rfl ?_ ?_ ?_ ?_
      . intro i hi q;simp at q;omega
      . simp only[Sem.run_bind,fS,Result.andThen_ok,Sem.run_pure]
      . intro i v q;obtain⟨v',q1,q2⟩:=gK (Cw (E:=E) s) i v (by rw[<- Cx];exact q);refine⟨v',?_,q2⟩;simp only[bytesRow,bE];rw[bS (by simpa using (aG.1 q1).1)];simpa using q1
      . refine⟨w.heap.size,0,0,grownCap w s.length 0 el,Env.ff,fun _=>rfl,aA _,nP,?_,rfl⟩;simp[Env.put,I]
   . cases e
 . rename_i el f C N B;have G:∃a A,x'= .slice a 0 A:=by obtain⟨a,A,_,G,_⟩:=rx.1;exact⟨a,A,G⟩
   obtain⟨a,A,rfl⟩:=G;split at e
   . rename_i hu;obtain rfl:=ek e;refine ee g (v':=.string .empty) ?_ rfl;cases a<;>simp[convert,dD N,dD B,dD hu,Conv.bytesToString,loadCells,loadCellsFrom]
   . cases e
 . rename_i el _ _ _ N B;obtain⟨_,_,rfl⟩:=rx;split at e
   . rename_i hu;obtain rfl:=ek e;refine ee g (v':=.string .empty) ?_ rfl;simp[convert,dD N,dD B,dD hu,Conv.bytesToString]
   . cases e
 . rename_i el m o T A jC N B;split at e
   . rename_i hu;split at e
     . rename_i Uc;subst Uc;obtain⟨b,sh,o',gp,hi,c1,c2,c3,c4,rfl⟩:=rx;split at e
       . rename_i s0 W;split at e
         . rename_i ku;obtain rfl:=ek e;obtain⟨c,UI,fz,xs,wY,Zu,BD,EO⟩:=Kn g hi W;subst Zu;refine ee g (v':=.string ⟨((s0.drop o).take T).toArray⟩) ?_ rfl;rcases Nat.eq_zero_or_pos T with wj|Zv
           . subst wj;simp[convert,dD N,dD B,dD hu,Conv.bytesToString,loadCells,loadCellsFrom];rfl
           . have ku:o+T<=s0.length:=ku.resolve_left K;have Ud:xs.length=s0.length:=by rw[<- BD];simp[eT]
             have Eo:o'=0+o:=c1 K;subst Eo;have adM:mz E 0 (xs.map (.int .u8)) c:=mS.2 (by simpa using EO);have hb:=ot adM (k:=o+T) K (by simp;omega);have Ye:=run_loadCells (P:=P) (o:=0+o) (n:=T) wY K;rw[Cy (ou adM (by simp;omega) K)]at Ye;rw[Sem.run_bind,run_convert_bytes_string w Mr dst el _ T gp N hu B,run_bytesToString w _ T gp _ Ye,tC];simp[<- BD,eT,cN,List.map_drop]
         . cases e
       . split at e
         . rename_i ks W;split at e
           . rename_i ku;obtain rfl:=ek e;obtain⟨c,UI,fz,wY,EO⟩:=NT g hi W;refine ee g (v':=.string ⟨(eT ((ks.drop o).take T)).toArray⟩) ?_ rfl;rcases Nat.eq_zero_or_pos T with wj|Zv
             . subst wj;simp[convert,dD N,dD B,dD hu,Conv.bytesToString,loadCells,loadCellsFrom,eT];rfl
             . have ku:o+T<=ks.length:=ku.resolve_left K;have Eo:o'=sh+o:=c1 K;subst Eo;have hb:=ot EO (k:=o+T) K (by simpa using ku);have Ye:=run_loadCells (P:=P) (o:=sh+o) (n:=T) wY K;rw[Cy (ou EO (by simpa using ku) K)]at Ye;rw[Sem.run_bind,run_convert_bytes_string w Mr dst el _ T gp N hu B,run_bytesToString w _ T gp _ Ye,tC];simp[eT]
           . cases e
         . split at e
           . obtain rfl:=ek e;refine ee g (v':=.string .empty) ?_ rfl;simp[convert,dD N,dD B,dD hu,Conv.bytesToString,loadCells,loadCellsFrom]
           . rename_i wj;split at e
             . rename_i C W;cases I:cut C o T with
               |none=>simp[I]at e
               |some bs=>
                simp only[I]at e;cases ht:ru bs with
                |none=>simp[ht]at e
                |some s=>
                 simp only[ht,an]at e;subst e;obtain⟨ku,rfl⟩:=Ae I;have Zv:0<T:=by
                  cases T with
                  |zero=>exact absurd rfl wj
                  |succ _=>omega
                 have Eo:o'=sh+o:=c1 K;subst Eo;obtain⟨b',sh',zX,c,UI,fz,wY,_,_,EO⟩:=g.rel m _ W;rw[hi]at zX;cases zX;have hb:=ot EO (k:=o+T) K ku;have Ye:=run_loadCells (P:=P) (o:=sh+o) (n:=T) wY K;obtain⟨ns,n1,n2⟩:=Cz _ s _ ht (ou EO ku K);rw[n1]at Ye;refine ee g (v':=.string ⟨s.toArray⟩) ?_ rfl;rw[Sem.run_bind,run_convert_bytes_string w Mr dst el _ T gp N hu B,run_bytesToString w _ T gp ns Ye,tC,<- n2];simp
             . cases e
     . cases e
   . cases e
 . cases e
theorem ES{t:TypeId}{i:TypeInfo}{z:V}(hi:P.info? t=some i)(hz:zeroOf P t=some z):∃z',i.zero=some z'/\(zeroValue t).run P w= .ok z' w/\dK E z z':=by
 obtain⟨z',N,B,i',h3,h4⟩:=mB (P:=P) (w:=w) E hz;rw[hi]at h3;cases h3;exact⟨z',h4,N,B⟩
theorem H9(k:IntKind)(ks:List Int):∀n,(uy ks n).map (V.int k)=ia (ks.map (V.int k)) n
 |0=>rfl
 |n+1=>by rw[uy,ia,aY,H9 k ks n]
theorem Qi{z z':ag}(h:wk z z'):∀n,wk (ia z n) (ia z' n)
 |0=>jb _
 |n+1=>Ab h (Qi h n)
theorem Ia(ds:ai):∀n,rs.l6 (BA ds n)=ia (rs.l6 ds) n
 |0=>rfl
 |n+1=>by rw[BA,ia,<- Ia ds n,rs.gB,rs.gB,rs.gB,aY]
theorem Mu{ds:ai}(h:∀x∈ds,x.scalar=true):∀n,∀x∈BA ds n,x.scalar=true
 |0,x,G=>by simp[BA]at G
 |n+1,x,G=>(aW.1 G).elim (h x) (Mu h n x)
theorem CA(z:ag)(n:Nat):wk (ia z n) (vX z n).iZ/\(vX z n).sc:=by
 have key:∀z:ag,wk (ia z n) (match iC z with|some ds=>Row.ds (BA ds n)|none=>Row.vs (ia z n)).iZ/\(match iC z with|some ds=>Row.ds (BA ds n)|none=>Row.vs (ia z n)).sc:=by
  intro z;split
  . rename_i ds h;refine⟨?_,Mu (oq h) n⟩;simp only[Row.iZ,Ia];exact Qi (yE h) n
  . exact⟨jb _,trivial⟩
 unfold vX;split
 . rename_i k x r;split
   . rename_i ks h;refine⟨?_,trivial⟩;rw[qo h];simp only[Row.iZ,H9];exact jb _
   . exact key _
 . exact key _
theorem Gg{t:TypeId}{l c:V}{l' c':Value}{r:nx}(g:Good E h w)(hn:E.ι n=none)(rl:dK E l l')(rc:dK E c c')(e:oe P t l c h n=some r):
  kz P E h n w (do pure (.value (<- Instr.makeSlice t l' c'))) r:=by
 unfold oe at e;split at e
 . rename_i el k l k' c he;simp only[dK]at rl rc;subst rl;subst rc;split at e
   . rename_i i z hi hz;simp only at e;split at e
     . rename_i hq;obtain⟨q1,q2,q3,q4,q5⟩:=hq;cases ho:newObj h n (vX z.cells (IntKind.i64.wrap c).toNat).EM with
       |none=>simp[ho]at e
       |some p=>
        obtain⟨h',n'⟩:=p;simp only[ho,an]at e;subst e;obtain⟨z',Py,NU,hz3⟩:=ES (P:=P) (E:=E) (w:=w) hi hz;have hzc:=iE hz3;have Qb:=Cu hzc K (IntKind.i64.wrap c).toNat;rw[q2]at Qb;generalize hC:(IntKind.i64.wrap c)=cs at *;generalize J:(IntKind.i64.wrap l)=aa at *;have hu:=H7 he;have l8:(sizeOf el).run P w= .ok i.size w:=by simp[sizeOf,typeInfo,hi]
        refine tx (w1:=w) (c:=(Array.range (cs.toNat*i.size)).map (z'.cells[·%z'.cells.size]!)) (el:=el) (v':=.slice (some ⟨w.heap.size,0,none⟩) aa.toNat cs.toNat) g hn (CA _ _).2 ho rfl rfl rfl rfl ?_ (by refine yF (CA _ _).1 ?_;exact oL Qb) ?_
        . have Qj:¬((i.bytes:Int)*cs>2^48):=by omega
          simp only[Instr.makeSlice,Sem.run_bind,dD hu,Result.andThen_ok,asInt,asIntOf,Sem.run_pure,typeInfo,run_program,hi,hC,J];rw[aI (by simp;omega)];simp only[Sem.run_bind,run_askRoom,Result.andThen_ok,l8,Sem.run_ite,Sem.run_pure,NU];by_cases h0:cs.toNat*i.size=0
          . rw[aH h0];have e0:∀f:Nat->Value,Array.map f (Array.range 0)=#[]:=fun f=>by apply Array.ext' ;simp
            simp[h0,newRow,e0]
          . rw[aI h0];simp[newRow]
        . refine⟨w.heap.size,0,0,cs.toNat,Env.ff,fun _=>rfl,K,aA _,?_,rfl⟩;simp[Env.put]
     . cases e
   . cases e
 . cases e
theorem Ib{size k:Nat}{x:V}{new:Row}{x':Value}(g:Good E h w)(r:dK E x x')(e:jE h size x=some (k,new)):
  (∀w1:World,(Builtin.lenOf x').run P w1= .ok k w1)/\new.iZ.length=k*size/\new.sc/\
   ∃kG:Array Value,(∀w1:World,w1.heap=w.heap->(Builtin.firstCells size k x').run P w1= .ok kG w1)/\dL E new.iZ kG.toList:=by
 unfold jE at e;split at e
 . rename_i T _ _;split at e
   . rename_i hl;obtain⟨rfl,rfl⟩:=fg e;obtain⟨_,_,rfl⟩:=r;exact⟨fun _=>rfl,by simp[Row.iZ],trivial,#[],fun _ _=>rfl,by simp[dL,Row.iZ]⟩
   . cases e
 . rename_i m o T A jC;split at e
   . rename_i Uc;subst Uc;obtain⟨b,sh,o',gp,hi,c1,c2,c3,c4,rfl⟩:=r;split at e
     . obtain⟨rfl,rfl⟩:=fg e;refine⟨fun _=>rfl,by simp[Row.iZ],trivial,#[],fun _ _=>?_,by simp[dL,Row.iZ]⟩;simp[Builtin.firstCells,loadCells,loadCellsFrom]
     . rename_i wj;split at e
       . rename_i ob W;split at e
         . rename_i rw0 vc;cases sg:rw0.cut o (T*jC)with
           |none=>simp[sg]at e
           |some x=>
            simp only[sg,an,aB]at e;obtain⟨rfl,rfl⟩:=e;obtain⟨ku,G⟩:=Ae (Row.F7 sg);have Zv:0<T:=by
             cases T with
             |zero=>exact absurd rfl wj
             |succ _=>omega
            have Eo:o'=sh+o:=c1 K;subst Eo;obtain⟨b',sh',zX,q0⟩:=g.rel m _ W;obtain⟨⟨c,UI,fz,wY,l8,EO⟩,Kg⟩:=NQ vc q0;rw[hi]at zX;cases zX;have Ag:sh+o+T*jC<=c.size:=by
             have:T*jC<=gp*jC:=ct _ K;omega
            refine⟨fun _=>rfl,by rw[G];simp;omega,Row.PZ sg Kg,((c.toList.drop (sh+o)).take (T*jC)).toArray,fun w1 HE=>?_,by rw[G];simpa using ou EO ku Ag⟩;simp only[Builtin.firstCells];exact run_loadCells (by rw[HE];exact wY) Ag
         . cases e
       . cases e
   . cases e
 . rename_i s;split at e
   . rename_i gi;obtain⟨rfl,rfl⟩:=fg e;simp only[dK]at r;subst r;have l8:(⟨s.toArray⟩:ByteArray).size=s.length:=by show s.toArray.size=_;simp
     refine⟨fun _=>?_,by simp[ef,gi,Row.iZ],trivial,(s.map fun b=>Value.int .u8 b.toNat).toArray,fun w1 _=>?_,by simp only[Row.iZ,Cx];exact Cw s⟩
     . simp[Builtin.lenOf,l8]
     . simp only[Builtin.firstCells,Sem.run_pure];congr 1;apply Array.ext';simp
   . cases e
 . rename_i f T C;split at e
   . rename_i hl;obtain⟨rfl,rfl⟩:=fg e;obtain⟨⟨a,A,vs,rfl,nP,hd,h0,mL⟩,_⟩:=r;have hvl:=qc hd;refine⟨fun _=>rfl,by simp only[Row.iZ,rs.gB,aT];exact hl,jn hd,vs.toArray,fun w1 HE=>?_,by simpa[Row.iZ]using v7 _ _ hd⟩;rcases Nat.eq_zero_or_pos T with hz|hp
     . have:=h0 hz;subst this;have hv:vs=[]:=by simpa using hvl
       subst hv;subst hz;cases a<;>simp[Builtin.firstCells,loadCells,loadCellsFrom]
     . obtain⟨b,o,c,rfl,BP,I⟩:=mL hp;obtain⟨⟨el,fz,wY⟩,_⟩:=g.gQ b c BP;have adN:(c.toList.drop o).take (T*size)=vs:=by
        apply List.ext_getElem?;intro j;rw[bP,bJ];by_cases hj:j<T*size
        . rw[aH hj];have Zw:j<vs.length:=by omega
          have:=I j _ (ay Zw);rw[ay Zw,<- this];simp
        . rw[aI hj,bN K]
       simp only[Builtin.firstCells];rcases Nat.eq_zero_or_pos (T*size)with q|q
       . have hn:vs=[]:=by simpa[hl,q]using hvl
         subst hn;rw[q];rfl
       . have Ag:o+T*size<=c.size:=by
          have:((c.toList.drop o).take (T*size)).length=T*size:=by rw[adN];omega
          simp at this;omega
         rw[run_loadCells (by rw[HE];exact wY) Ag,adN]
   . cases e
 . cases e
end
section
variable{P:Program}{E:Env}{h:H lf}{n:Nat}{w:World}
theorem nA(z:Array Value)(k:Nat):(Builtin.zeroCells z k).size=k*z.size:=by simp[Builtin.zeroCells]
theorem CB{NO size bytes:Nat}(q:eU NO size bytes=true):NO*bytes<=281474976710/\NO*size<=281474976710:=by
 simpa[eU]using q
theorem ur{b o:Nat}{el:TypeId}{fz:Nat×Nat}:∀(vs:List Value) (i:Nat) (w:World) (c:Array Value),w.heap[b]? =some (.cells c el fz)->
  (∀j,o+i<=j->j<o+i+vs.length->¬(fz.1<=j/\j<fz.2))->(∀v∈vs,v.oneCell'=true)->o+i+vs.length<=c.size->
  ∃w',(storeCells ⟨b,o,none⟩ vs i).run P w= .ok () w'/\w'.heap[b]? =some (.cells (putCells c (o+i) vs) el fz)/\w'.heap.size=w.heap.size/\w'.tape=w.tape/\w'.os=w.os/\w'.output=w.output/\
   ∀x,x≠b->w'.heap[x]? =w.heap[x]?
 | [],i,w,c,h,_,_,hn=>by
   refine⟨w,rfl,?_,rfl,rfl,rfl,rfl,fun _ _=>rfl⟩;rw[h];have:putCells c (o+i) []=c:=by simp[putCells]
   rw[this]
 |v::vs,i,w,c,h,hf,hv,hn=>by
  simp only[aS]at hn hf;have fI:o+i<c.size:=by omega
  have hnf:w.frozen? ⟨b,o+i,none⟩=false:=by
   have:=hf (o+i) (aA _) K;simp only[World.frozen?,h];simpa using this
  let w1:=w.setCell ⟨b,o+i,none⟩ v
  have HE:w1.heap[b]? =some (.cells (c.setIfInBounds (o+i) v) el fz):=by
   simp[w1,World.setCell,cq,h]
  obtain⟨w',e1,e2,e3,e4,e5,e6,e7⟩:=ur (o:=o) vs (i+1) w1 (c.setIfInBounds (o+i) v) HE (fun j N B=>hf j K K) (fun v hv'=>hv v (by simp[hv'])) (by simp only[Array.size_setIfInBounds];omega);refine⟨w',?_,?_,by rw[e3];simp[w1],by rw[e4];rfl,by rw[e5];rfl,by rw[e6];rfl,?_⟩
  . simp only[storeCells,Sem.run_bind];rw[run_store P w _ v .plain (hv v (by simp)),Addr.ji,nv h,br fI];simp only[hnf,aO,cI,Result.andThen_ok];exact e1
  . rw[e2];have:o+(i+1)=o+i+1:=by omega
    rw[this,rU K]
  . intro x G;rw[e7 x G];simp[w1,World.setCell,cq,Ne.symm G]
theorem yP:∀{l:ag} {t:L},uU l=some t->∃xs:List Int,l=xs.map (.int .u8)/\eT xs=t
 | [],t,h=>by simp only[uU,an]at h;subst h;exact⟨[],rfl,rfl⟩
 |v::r,t,h=>by
  unfold uU at h;split at h
  . rename_i q;cases q
  . rename_i x r' q;cases q;split at h
    . rename_i l hl;obtain rfl:=ek h;obtain⟨xs,N,B⟩:=yP hl;exact⟨x::xs,by rw[N];rfl,by rw[<- B];rfl⟩
    . cases h
  . cases h
theorem Gh{r:Row}{t:L}(h:uV r=some t):∃xs:List Int,r.iZ=xs.map (.int .u8)/\eT xs=t:=by
 unfold uV at h;split at h
 . rename_i ks;cases h;exact⟨ks,rfl,rfl⟩
 . exact yP h
 . cases h
theorem NV{xs:List Int}{l:List Value}(r:dL E (xs.map (.int .u8)) l):l=xs.map (.int .u8):=by
 induction xs generalizing l with
 |nil=>exact r
 |cons x xs ih=>
  obtain⟨y,ys,r0,D,rfl⟩:=r;simp only[dK]at r0;subst r0;rw[ih D];rfl
theorem gk:∀t:L,eT (ef t)=t
 | []=>rfl
 |b::r=>by
  have ih:=gk r;simp only[eT,ef,bY,List.map_map]at ih ⊢;rw[ih];simp
theorem ve(xs:List Int):(eT xs).length=xs.length:=by simp[eT]
section
variable{st xt el ty:TypeId}{xd:TypeDesc}{i:TypeInfo}
theorem lW{z':Value}(hu:P.underlying st=some (.slice el))(G:P.underlying xt=some xd)(NW:(∃y,xd= .slice y)\/xd= .string)
  (hi:P.info? el=some i) (hz:i.zero=some z') {base:Option Addr} {sLen sCap k:Nat} {x':Value} {old new:Array Value}
  (iQ:∀w1:World,(Builtin.lenOf x').run P w1= .ok k w1) (oT:∀w1:World,w1.heap=w.heap->(Builtin.firstCells i.size sLen (.slice base sLen sCap)).run P w1= .ok old w1)
  (tu:∀w1:World,w1.heap=w.heap->(Builtin.firstCells i.size k x').run P w1= .ok new w1)
  (nP:sCap<sLen+k) (hb:0<i.bytes) (rF:(sLen+k)*i.bytes<=281474976710):
  (Builtin.append_ #[st,xt] ty #[.slice base sLen sCap,x']).run P w=
   .ok (.slice (some ⟨w.heap.size,0,none⟩) (sLen+k) (grownCap w (sLen+k) sCap el))
    (w.drew.alloc (.cells (old++new++Builtin.zeroCells z'.cells (grownCap w (sLen+k) sCap el-(sLen+k))) el)):=by
 have Gi:Builtin.nextslicecap (sLen+k) sCap*i.bytes<=281474976710656:=growslice_fits nP K;have sB:¬(sLen+k<=sCap):=by omega
 have Yf:¬(281474976710656<Builtin.nextslicecap (sLen+k) sCap*i.bytes):=by omega
 have HF:¬(i.bytes=0):=by omega
 have ho:=oT w.drew rfl;have hn:=tu w.drew rfl;rcases NW with⟨y,rfl⟩|rfl
 . simp[Builtin.append_,dD hu,dD G,sizeOf,typeInfo,zeroValue,hi,hz,iQ,sB,Yf,HF,Question.forced,newRow,grownCap,ho,hn]
 . simp[Builtin.append_,dD hu,dD G,sizeOf,typeInfo,zeroValue,hi,hz,iQ,sB,Yf,HF,Question.forced,newRow,grownCap,ho,hn]
theorem run_append_room(hu:P.underlying st=some (.slice el))(G:P.underlying xt=some xd)(NW:(∃y,xd= .slice y)\/xd= .string)
  (hi:P.info? el=some i) {base:Option Addr} {sLen sCap k:Nat} {x':Value} {new:Array Value}
  (iQ:∀w1:World,(Builtin.lenOf x').run P w1= .ok k w1) (tu:(Builtin.firstCells i.size k x').run P w= .ok new w) (nP:sLen+k<=sCap):
  (Builtin.append_ #[st,xt] ty #[.slice base sLen sCap,x']).run P w=
   ((match base with|some a=>storeCells (a.add (sLen*i.size)) new.toList|none=>pure ()).run P w).andThen fun _ w'=>.ok (.slice base (sLen+k) sCap) w':=by
 rcases NW with⟨y,rfl⟩|rfl
 . cases base<;>simp[Builtin.append_,dD hu,dD G,sizeOf,typeInfo,hi,iQ,nP,tu]
 . cases base<;>simp[Builtin.append_,dD hu,dD G,sizeOf,typeInfo,hi,iQ,nP,tu]
end
theorem NX{eH:Array TypeId}{ty:TypeId}{args:ag}{de:List Value}{r:nx}(g:Good E h w)(hn:E.ι n=none)(ra:dL E args de)
  (e:yB P eH args h n=some r) (ha:eH.size=2):kz P E h n w (do pure (.value (<- Builtin.append_ eH ty de.toArray))) r:=by
 unfold yB at e;split at e
 . rename_i st xt s x N B;obtain⟨s',_,D,⟨x',_,rx,pK,rfl⟩,rfl⟩:=ra;simp only[dL]at pK;subst pK;have jZ:eH=#[st,xt]:=by
    apply Array.ext
    . simpa using ha
    . intro i q1 q2;have:i=0\/i=1:=by simp at q2;omega
      rcases this with rfl|rfl
      . rw[br q1]at N;simpa using N
      . rw[br q1]at B;simpa using B
   subst jZ;split at e
   . rename_i el xd he G;split at e
     . rename_i i z Zx hi hz;have NW:(∃y,xd= .slice y)\/xd= .string:=by
        unfold J8 at Zx;split at Zx
        . exact .inl ⟨_,rfl⟩
        . exact .inr rfl
        . cases Zx
       have hu:=H7 he;split at e
       . rename_i hq;obtain⟨q1,q2,q3⟩:=hq;obtain⟨z',Py,NU,hz3⟩:=ES (P:=P) (E:=E) (w:=w) hi hz;have Yg:z'.cells.size=i.size:=by have:=eP (iE hz3);simp at this;omega
         split at e
         . rename_i k new ht;obtain⟨t1,t2,tsc,kG,t3,t4⟩:=Ib g rx ht;have Mt:kG.size=k*i.size:=by have:=eP t4;simp at this;omega
           split at e
           . rename_i aj8;have Kg:=Row.P0 aj8 tsc;split at e
             ·
              obtain⟨_,sg,rfl⟩:=D;split at e
              . obtain rfl:=ek e;refine ee g (v':=.slice none 0 0) ?_ ⟨rfl,rfl,rfl⟩;rw[Sem.run_bind,run_append_room hu G NW hi t1 (t3 w rfl) K];rfl
              . rename_i Px;have hk:0<k:=by
                 cases k with
                 |zero=>exact absurd rfl Px
                 |succ _=>omega
                split at e
                . rename_i rF;cases ho:newObj h n (Cl el x new)with
                  |none=>simp[ho]at e
                  |some p=>
                   obtain⟨h',n'⟩:=p;simp only[ho,an]at e;subst e;obtain⟨r1,r2⟩:=CB rF;have fS:=lW (w:=w) (ty:=ty) hu G NW hi Py (base:=none) (sLen:=0) (sCap:=0) (x':=x') (old:=#[]) t1 (fun _ _=>rfl) t3 K q2 (by simpa using r1);simp only[bE]at fS;have nP:k<=grownCap w k 0 el:=by simp only[grownCap,Question.cut];omega
                   have l8:(#[]++kG++Builtin.zeroCells z'.cells (grownCap w k 0 el-k)).size=grownCap w k 0 el*i.size:=by
                    simp only[Array.size_append,nA,Yg,Mt,Array.size_empty];rw[bE,<- cP];congr 1;omega
                   have EO:mz E 0 new.iZ (#[]++kG++Builtin.zeroCells z'.cells (grownCap w k 0 el-k)):=by
                    intro j v q;obtain⟨v',p1,p2⟩:=gK t4 j v q;refine⟨v',?_,p2⟩;have hj:j<kG.size:=by have:=(aG.1 p1).1;simpa using this
                    rw[bS (by simp;omega)];simpa using p1
                   have hvs:dK (E.put n w.heap.size 0 (#[]++kG++Builtin.zeroCells z'.cells (grownCap w k 0 el-k)).size) (.dj (some (n,0)) k k i.size) (.slice (some ⟨w.heap.size,0,none⟩) k (grownCap w k 0 el)):=by
                    refine⟨w.heap.size,0,0,grownCap w k 0 el,Env.ff,fun _=>rfl,aA _,nP,?_,rfl⟩;rw[l8];simp[Env.put]
                   have BQ:(do pure (.value (<- Builtin.append_ #[st,xt] ty #[.slice none 0 0,x'])):Sem Next).run P w= .ok (.value (.slice (some ⟨w.heap.size,0,none⟩) k (grownCap w k 0 el))) (w.drew.alloc (.cells (#[]++kG++Builtin.zeroCells z'.cells (grownCap w k 0 el-k)) el)):=by
                    simp only[Sem.run_bind,fS,Result.andThen_ok,Sem.run_pure]
                   unfold Cl at ho;split at ho
                   . rename_i t;obtain⟨gT,rfl,rfl⟩:=kP ho;simp only[jE]at ht;split at ht
                     case isFalse=>cases ht
                     rename_i gi;obtain⟨rfl,rfl⟩:=fg ht;have ow:=mS.1 EO;have ua:=iG.alloc (n:=n) (ob:=.cells (#[]++kG++Builtin.zeroCells z'.cells (grownCap w t.length 0 el-t.length)) el) (o:=.jf el false t) (w:=w.drew) (g.same rfl) hn gT (by
                      refine⟨_,_,ef t,heap_alloc_new,rfl,by simp[Env.put,jY],⟨.inl rfl,fun _=>rfl⟩,gk t,fun j x G=>?_⟩;have:=ow j x G;simpa using this)
                     exact⟨_,_,_,.inl BQ,hvs,(iG.drew g).trans ua,fun m' tr=>Env.fF tr,.inr rfl⟩
                   . exact tx (r:=new) (w1:=w.drew) (c:=#[]++kG++Builtin.zeroCells z'.cells (grownCap w k 0 el-k)) (el:=el) g hn tsc ho rfl rfl rfl rfl BQ EO hvs
                . cases e
             ·
              rename_i T C _;obtain⟨⟨a,A,vs,rfl,nP,hd,UH,mL⟩,yN⟩:=D;obtain⟨_,yN⟩:=yN rfl;simp only[Value.slice.injEq]at yN;obtain⟨_,_,hq⟩:=yN;have hq:=hq.symm;subst hq;split at e
              . obtain rfl:=ek e;refine ee g (v':=.slice a T T) ?_ ⟨⟨a,T,vs,rfl,nP,hd,UH,mL⟩,fun _=>⟨a,rfl⟩⟩;rw[Sem.run_bind,run_append_room hu G NW hi t1 (t3 w rfl) K];have UH:kG.toList=[]:=by simp at t2;simpa[t2]using eP t4
                rw[UH];cases a<;>rfl
              . rename_i Px;have hk:0<k:=by
                 cases k with
                 |zero=>exact absurd rfl Px
                 |succ _=>omega
                split at e
                . rename_i rF;obtain⟨rF,hl⟩:=rF;cases ho:newObj h n ((Row.ds C).app new).EM with
                  |none=>simp[ho]at e
                  |some p=>
                   obtain⟨h',n'⟩:=p;simp only[ho,an]at e;subst e;obtain⟨r1,r2⟩:=CB rF;obtain⟨t1',_,_,BE,t3',t4'⟩:=Ib (P:=P) (size:=i.size) (x:=.dS true T C) (x':=.slice a T T) g ⟨⟨a,T,vs,rfl,nP,hd,UH,mL⟩,fun _=>⟨a,rfl⟩⟩ (k:=T) (new:=.ds C) (by simp only[jE,aH hl]);have fS:=lW (w:=w) (ty:=ty) hu G NW hi Py (base:=a) (sLen:=T) (sCap:=T) (x':=x') (old:=BE) t1 t3' t3 K q2 r1;have nP:T+k<=grownCap w (T+k) T el:=by simp only[grownCap,Question.cut];omega
                   have hol:BE.size=T*i.size:=by have:=eP t4';simp[Row.iZ,rs.gB,hl]at this;omega
                   have l8:(BE++kG++Builtin.zeroCells z'.cells (grownCap w (T+k) T el-(T+k))).size=grownCap w (T+k) T el*i.size:=by
                    simp only[Array.size_append,nA,Yg,Mt,hol];rw[<- cP,<- cP];congr 1;omega
                   refine tx (r:=(Row.ds C).app new) (w1:=w.drew) (c:=BE++kG++Builtin.zeroCells z'.cells (grownCap w (T+k) T el-(T+k))) (el:=el) (v':=.slice (some ⟨w.heap.size,0,none⟩) (T+k) (grownCap w (T+k) T el)) g hn (Row.Ki (jn hd) tsc) ho rfl rfl rfl rfl ?_ ?_ ?_
                   . simp only[Sem.run_bind,fS,Result.andThen_ok,Sem.run_pure]
                   . refine yF (Row.Kh _ _) ?_;intro j v q;have q':=iK t4' t4;obtain⟨v',p1,p2⟩:=gK q' j v q;refine⟨v',?_,p2⟩;have hj:=(aG.1 p1).1;rw[bS (by simp at hj ⊢;omega)];rw[<- bO];simpa using p1
                   . refine⟨w.heap.size,0,0,grownCap w (T+k) T el,Env.ff,fun _=>rfl,aA _,nP,?_,rfl⟩;rw[l8];simp[Env.put]
                . cases e
             ·
              rename_i m o T A jC _;split at e
              . rename_i hq2;obtain⟨u1,u2,u3⟩:=hq2;subst u1;obtain⟨b,sh,o',gp,kI,c1,c2,c3,c4,rfl⟩:=D;obtain⟨r1,r2⟩:=CB u2;split at e
                ·
                 rename_i UJ AW s0 W;split at e
                 case h_2=>cases e
                 rename_i t ht;split at e
                 case isFalse=>cases e
                 rename_i adP;obtain⟨⟨ho0,adQ⟩,⟨iQ,yN⟩,Ep,aka⟩:=adP;obtain⟨b',sh',zX,c,fz,xs,wY,Zu,l8,⟨BP,Kp⟩,BD,mC⟩:=g.rel m _ W;rw[kI]at zX;cases zX;subst Zu;have Eo:o'=0:=by have:=c1 adQ;omega
                 subst Eo;obtain⟨ys,hy1,hy2⟩:=Gh ht;rw[hy1]at t4;have hnv:=NV t4;have atl:xs.length=s0.length:=by rw[<- BD,ve]
                 generalize hX:xs.take T=Ue;have Ud:Ue.length=T:=by rw[<- hX,aZ];omega
                 have UK:∀(j:Nat) (x:Int),Ue[j]? =some x->c[j]? =some (.int .u8 x):=fun j x G=>by
                  rw[<- hX,bP]at G;split at G
                  . exact mC j x G
                  . cases G
                 have hyl:ys.length=k:=by have:=aN List.length hy1;simp at this;rw[<- this,t2,Ep];omega
                 cases ho:newObj (h.set m none) n (.jf UJ AW (s0.take T++t))with
                 |none=>simp[ho]at e
                 |some p=>
                  obtain⟨h',n'⟩:=p;simp only[ho,an]at e;subst e;subst aka;obtain⟨gT,rfl,rfl⟩:=kP ho;have Zy:eT (Ue++ys)=s0.take T++t:=by rw[<- hX,<- BD,<- hy2];simp[eT,cN]
                  have htl:(s0.take T++t).length=T+k:=by rw[<- Zy,ve,ax,Ud,hyl]
                  by_cases rF:T+k<=gp
                  ·
                   have Yh:0+(T+k)*i.size<=c.size:=by
                    have:(T+k)*i.size<=gp*i.size:=ct _ rF;omega
                   rw[Ep]at Yh c4;have Kl:∀v∈kG.toList,v.oneCell'=true:=by
                    intro v hv;rw[hnv]at hv;obtain⟨x,_,rfl⟩:=bA.1 hv;rfl
                   have UB:kG.toList.length=k:=by rw[hnv,aT,hyl]
                   obtain⟨w',e1,e2,e3,e4,e5,e6,e7⟩:=ur (P:=P) (o:=T) kG.toList 0 w c wY (fun j N B h3=>by
                    have hj:j<c.size:=by omega
                    cases AW with
                    |true=>
                     have:=yN rfl;omega
                    |false=>have:=Kp rfl;omega) Kl K
                   have oM:T+kG.toList.length<=c.size:=by omega
                   have Kq:=iG.move (n:=n) (s':=0) (o:=.jf UJ AW (s0.take T++t)) g u3 gT hn ⟨_,W,rfl⟩ kI e3 e4 e5 e6 e7 (by
                    refine⟨_,fz,Ue++ys,e2,rfl,by rw[Nat.add_zero,jO oM];simp[Env.put,l8],⟨?_,Kp⟩,Zy,fun j x G=>?_⟩
                    . rw[htl];cases AW with
                      |true=>have:=yN rfl;omega
                      |false=>exact .inl (Kp rfl)
                    . rw[Nat.add_zero,nw oM];by_cases hj:j<T
                      . rw[bz K]at G;rw[aI K];exact UK j x G
                      . rw[cm K,Ud]at G;have Zw:j-T<ys.length:=(aG.1 G).1;rw[aH K,hnv,bu,G];rfl)
                   refine⟨_,w',.slice (some ⟨b,0,none⟩) (T+k) gp,.inl ?_,?_,Kq,fun m' tr=>Env.fF tr,.inr rfl⟩
                   . rw[Sem.run_bind,run_append_room hu G NW hi t1 (t3 w rfl) rF];simp only[Addr.ji,Ep,bk,bE,e1,Result.andThen_ok,Sem.run_pure]
                   . refine⟨b,0,0,gp,Env.ff,fun _=>rfl,aA _,rF,?_,rfl⟩;simpa[Env.put,Ep]using c4
                  ·
                   have v1:0+T*i.size<=c.size:=by
                    have:T*i.size<=gp*i.size:=ct _ K;omega
                   have oT:(c.toList.drop 0).take (T*i.size)=Ue.map (Value.int .u8):=by
                    rw[Ep,bk]at *;apply List.ext_getElem?;intro j;rw[bP,bu];by_cases hj:j<T
                    . rw[aH hj,bn];have Zw:j<Ue.length:=by omega
                      rw[ay Zw];have:=UK j _ (ay Zw);simpa using this
                    . rw[aI hj,bN K];rfl
                   have hf:∀w1:World,w1.heap=w.heap->(Builtin.firstCells i.size T (.slice (some ⟨b,0,none⟩) T gp)).run P w1= .ok ((c.toList.drop 0).take (T*i.size)).toArray w1:=fun w1 HE=>by
                    simp only[Builtin.firstCells];exact run_loadCells (by rw[HE];exact wY) v1
                   have fS:=lW (w:=w) (ty:=ty) hu G NW hi Py t1 hf t3 K q2 r1;have nP:T+k<=grownCap w (T+k) gp UJ:=by simp only[grownCap,Question.cut];omega
                   have uf:=iG.forget g u3;rw[oT]at fS;have yQ:((Ue.map (Value.int .u8)).toArray).size=T:=by simp[Ud]
                   have UB:kG.size=k:=by rw[Mt,Ep,bk]
                   generalize hC:((Ue.map (Value.int .u8)).toArray++kG++Builtin.zeroCells z'.cells (grownCap w (T+k) gp UJ-(T+k)))=cs at fS;have hCs:cs.size=grownCap w (T+k) gp UJ*i.size:=by
                    rw[<- hC,Array.size_append,Array.size_append,nA,Yg,UB,yQ,Ep,bk,bk];omega
                   have ua:=iG.alloc (n:=n) (ob:=.cells cs UJ) (o:=.jf UJ AW (s0.take T++t)) (w:=w.drew) (uf.good.same rfl) hn gT (by
                    refine⟨cs,_,Ue++ys,heap_alloc_new,rfl,by simp[Env.put,jY],⟨.inl rfl,fun _=>rfl⟩,Zy,fun j x G=>?_⟩;rw[<- hC];have Pz:j<(Ue++ys).length:=(aG.1 G).1;rw[ax]at Pz;rw[bS (by rw[Array.size_append,yQ,UB];omega)];by_cases hj:j<T
                    . rw[bz K]at G;rw[bS K];simp[G]
                    . rw[cm K]at G;rw[Array.getElem?_append_right K,yQ,<- bO,hnv,bu,<- Ud,G];rfl)
                   refine⟨_,_,.slice (some ⟨w.heap.size,0,none⟩) (T+k) (grownCap w (T+k) gp UJ),.inl (by simp only[Sem.run_bind,fS,Result.andThen_ok,Sem.run_pure]),?_,(uf.trans (iG.drew uf.good)).trans ua,fun m' tr=>Env.fF tr,.inr rfl⟩;refine⟨w.heap.size,0,0,grownCap w (T+k) gp UJ,Env.ff,fun _=>rfl,aA _,nP,?_,rfl⟩;simp[Env.put,jY,hCs]
                . rename_i ob _ W;split at e
                  . rename_i rw0 vc;obtain⟨b',sh',zX,q0⟩:=g.rel m _ W;obtain⟨⟨c,UI,fz,wY,l8,Kp,EO⟩,Zq⟩:=HW vc q0;rw[kI]at zX;cases zX;split at e
                    . rename_i old oT;have adR:old.sc/\o'+T*i.size<=c.size/\dL E old.iZ ((c.toList.drop o').take (T*i.size)):=by
                       have HF:T*i.size<=gp*i.size:=ct _ K;refine⟨?_,K,?_⟩
                       . split at oT
                         . obtain rfl:=ek oT;trivial
                         . exact Row.PZ oT Zq
                       split at oT
                       . rename_i wj;obtain⟨_,rfl⟩:=wj;obtain rfl:=ek oT;simp[dL,Row.iZ]
                       . rename_i wj;rcases Nat.eq_zero_or_pos T with hlz|hl
                         . obtain⟨_,Qk⟩:=Ae (Row.F7 oT);rw[Qk,hlz];simp[dL]
                         obtain⟨ku,Qk⟩:=Ae (Row.F7 oT);rw[Qk];have Eo:o'=sh+o:=c1 K;subst Eo;exact ou EO ku K
                      obtain⟨adS,v1,v2⟩:=adR;have hol:old.iZ.length=T*i.size:=by have:=eP v2;simp at this;omega
                      split at e
                      . rename_i Px;obtain⟨_,hk1⟩:=Px;obtain rfl:=ek e;subst hk1;refine ee g (v':=.slice (some ⟨b,o',none⟩) T gp) ?_ ⟨b,sh,o',gp,kI,c1,c2,c3,c4,rfl⟩;have UH:kG.toList=[]:=by simp at Mt;simp[Mt]
                        rw[Sem.run_bind,run_append_room hu G NW hi t1 (t3 w rfl) K,UH];rfl
                      . rename_i Px;cases ho:newObj (h.set m none) n (old.app new).EM with
                        |none=>simp[ho]at e
                        |some p=>
                         obtain⟨h',n'⟩:=p;simp only[ho,an]at e;subst e;obtain⟨gT,rfl,rfl⟩:=kP ho;by_cases rF:T+k<=gp
                         ·
                          have Yh:o'+(T+k)*i.size<=c.size:=by
                           have:(T+k)*i.size<=gp*i.size:=ct _ rF;omega
                          have atp:(T+k)*i.size=T*i.size+k*i.size:=cP _ _ _;have Kl:∀v∈kG.toList,v.oneCell'=true:=by
                           intro v hv;obtain⟨j,hj⟩:=List.getElem?_of_mem hv;have fI:j<new.iZ.length:=by rw[<- eP t4];exact(aG.1 hj).1
                           obtain⟨v',p1,p2⟩:=gK t4 j new.iZ[j] (ay fI);rw[hj]at p1;cases p1;exact uZ p2 (by rw[bt]at Kg;exact Kg _ (b7 fI))
                          obtain⟨w',e1,e2,e3,e4,e5,e6,e7⟩:=ny (P:=P) (o:=o'+T*i.size) kG.toList 0 w c wY Kp Kl (by simp;omega);have oM:o'+T*i.size+kG.toList.length<=c.size:=by simp;omega
                          have Kq:=iG.move (n:=n) (s':=o') (o:=(old.app new).EM) g u3 gT hn ⟨_,W,P4 vc⟩ kI e3 e4 e5 e6 e7 (by
                           have ku:E.le (E.put n b o' (E.β b)):=Env.rT hn fun _ _ _ _ _=>rfl;refine yG ⟨_,UI,fz,e2,by rw[jO (by simpa using oM)];simp[Env.put,l8],by rw[jO (by simpa using oM)];exact Kp,?_⟩ (Row.Ki adS tsc);refine yF (Row.Kh _ _) ?_;refine qn ku ?_;intro j v q;rw[nw (by simpa using oM)];by_cases hj:j<T*i.size
                           . rw[bz K]at q;rw[aI K];obtain⟨v',p1,p2⟩:=gK v2 j v q;refine⟨v',?_,p2⟩;rw[bP,aH hj,bJ]at p1;simpa using p1
                           . rw[cm K,hol]at q;have Zw:j-T*i.size<new.iZ.length:=(aG.1 q).1;rw[aH (by simp;omega)];obtain⟨v',p1,p2⟩:=gK t4 _ v q;refine⟨v',?_,p2⟩;rw[<- p1];congr 1;omega)
                          refine⟨_,w',.slice (some ⟨b,o',none⟩) (T+k) gp,.inl ?_,?_,Kq,fun m' tr=>Env.fF tr,.inr rfl⟩
                          . rw[Sem.run_bind,run_append_room hu G NW hi t1 (t3 w rfl) rF];simp only[Addr.ji,e1,Result.andThen_ok,Sem.run_pure]
                          . refine⟨b,o',o',gp,Env.ff,fun _=>rfl,aA _,rF,?_,rfl⟩;simpa[Env.put]using c4
                         ·
                          have hf:∀w1:World,w1.heap=w.heap->(Builtin.firstCells i.size T (.slice (some ⟨b,o',none⟩) T gp)).run P w1= .ok ((c.toList.drop o').take (T*i.size)).toArray w1:=fun w1 HE=>by
                           simp only[Builtin.firstCells];exact run_loadCells (by rw[HE];exact wY) v1
                          have fS:=lW (w:=w) (ty:=ty) hu G NW hi Py t1 hf t3 K q2 r1;have nP:T+k<=grownCap w (T+k) gp el:=by simp only[grownCap,Question.cut];omega
                          have uf:=iG.forget g u3;have yQ:((c.toList.drop o').take (T*i.size)).toArray.size=T*i.size:=by simp;omega
                          have Ic:(((c.toList.drop o').take (T*i.size)).toArray++kG++Builtin.zeroCells z'.cells (grownCap w (T+k) gp el-(T+k))).size=grownCap w (T+k) gp el*i.size:=by
                           rw[Array.size_append,Array.size_append,nA,Yg,Mt,yQ];rw[<- cP,<- cP];congr 1;omega
                          obtain⟨E',w',v',p1,p2,p3,p4,p5⟩:=tx (P:=P) (r:=old.app new) (s:=(do pure (.value (<- Builtin.append_ #[st,xt] ty #[.slice (some ⟨b,o',none⟩) T gp,x'])):Sem Next))
                           (v:=.dj (some (n,0)) (T+k) (T+k) i.size) (w1:=w.drew) (c:=((c.toList.drop o').take (T*i.size)).toArray++kG++Builtin.zeroCells z'.cells (grownCap w (T+k) gp el-(T+k))) (el:=el)
                           (v':=.slice (some ⟨w.heap.size,0,none⟩) (T+k) (grownCap w (T+k) gp el)) uf.good hn (Row.Ki adS tsc) ho rfl rfl rfl rfl
                           (by simp only[Sem.run_bind,fS,Result.andThen_ok,Sem.run_pure])
                           (by
                            refine yF (Row.Kh _ _) ?_;intro j v q;have q':=iK v2 t4;obtain⟨v',p1,p2⟩:=gK q' j v q;refine⟨v',?_,p2⟩;have hj:=(aG.1 p1).1;rw[bS (by simp at hj ⊢;omega)];rw[<- bO];simpa using p1)
                           (by
                            refine⟨w.heap.size,0,0,grownCap w (T+k) gp el,Env.ff,fun _=>rfl,aA _,nP,?_,rfl⟩;rw[Ic];simp[Env.put])
                          exact⟨E',w',v',p1,p2,uf.trans p3,p4,p5⟩
                    . cases e
                  . cases e
                . cases e
              . cases e
             . cases e
           . cases e
         . cases e
       . cases e
     . cases e
   . cases e
 . cases e
end
theorem jt{kk:Option IntKind}{a b:rs}(ha:gL kk a=true)(hb:gL kk b=true):jd a b=true↔a=b:=by
 cases kk with
 |none=>
  cases a<;>simp only[gL,aO]at ha;cases b<;>simp only[gL,aO]at hb;rename_i s t;simp only[jd,fV,beq_iff_eq,rs.str.injEq]
 |some k=>
  cases a<;>simp only[gL,aO,bD]at ha;cases b<;>simp only[gL,aO,bD]at hb;subst ha;subst hb;simp[jd]
theorem Ie{φ:Nat->Option (Array Value)}{kd:TypeDesc}{kk:Option IntKind}{a b:rs}{a' b':Value}(hd:mI kd kk=true)(ha:gL kk a=true)(hb:gL kk b=true)(ra:lH φ a a')(rb:lH φ b b'):
  Instr.sameNow kd a' b'=some (jd a b):=by
 cases kk with
 |none=>
  cases a<;>simp only[gL,aO]at ha;cases b<;>simp only[gL,aO]at hb;simp only[lH]at ra rb;subst ra;subst rb;cases kd<;>simp only[mI,aO]at hd;simp only[Instr.sameNow,jd];rw[sw]
 |some k=>
  cases a<;>simp only[gL,aO,bD]at ha;cases b<;>simp only[gL,aO,bD]at hb;subst ha;subst hb;simp only[lH]at ra rb;subst ra;subst rb;cases kd<;>simp only[mI,aO]at hd;simp[Instr.sameNow,jd];rfl
theorem wm{φ:Nat->Option (Array Value)}{kd:TypeDesc}{kk:Option IntKind}{k:rs}{k':Value}(hd:mI kd kk=true)(hk:gL kk k=true)(rk:lH φ k k'):
  ∀(l:ae) (gj:List MapEntry) (i:Nat),jW φ l gj->(∀e∈l,gL kk e.1=true)->
  match dr k l with
  |none=>Instr.findNow kd k' gj i=some none/\(∀v,ir k v l=l++[(k,v)])/\lT k l=l/\k∉l.map (·.1)
  |some d=>∃j e',i<=j/\gj[j-i]? =some e'/\lH φ d e'.val/\lH φ k e'.key/\Instr.findNow kd k' gj i=some (some (j,e'.val))/\l[j-i]? =some (k,d)/\(∀v,ir k v l=l.set (j-i) (k,v))/\lT k l=l.eraseIdx (j-i)
 | [],gj,i,r,_=>by
   simp only[jW]at r;subst r;simp only[dr];exact⟨rfl,fun _=>rfl,rfl,by simp⟩
 |x::l,_,i,r,hl=>by
  obtain⟨y,ys,r1,r2,D,rfl⟩:=r;have G:=hl x (by simp);have hs:=Ie hd hk G rk r1;simp only[dr];cases hq:jd k x.1 with
  |true=>
   have e:=(jt hk G).1 hq;refine⟨i,y,aA _,by simp,r2,by rw[e];exact r1,?_,?_,fun v=>?_,?_⟩
   . simp only[Instr.findNow,hs,hq]
   . simp[e]
   . simp[ir,hq]
   . simp[lT,hq]
  |false=>
   have ih:=wm hd hk rk l ys (i+1) D fun e he=>hl e (by simp[he]);simp only;cases J:dr k l with
   |none=>
    rw[J]at ih;obtain⟨i1,i2,i3,i4⟩:=ih;refine⟨?_,fun v=>?_,?_,?_⟩
    . simp only[Instr.findNow,hs,hq,i1]
    . simp[ir,hq,i2]
    . simp[lT,hq,i3]
    . intro h;simp only[bY,aF]at h;rcases h with q|q
      . rw[(jt hk G).2 q]at hq;cases hq
      . exact i4 q
   |some d=>
    rw[J]at ih;obtain⟨j,e',j1,j2,j3,j4,j5,j6,j7,j8⟩:=ih;have hj:j-i=(j-(i+1))+1:=by omega
    refine⟨j,e',K,by rw[hj];simpa using j2,j3,j4,?_,by rw[hj];simpa using j6,fun v=>?_,?_⟩
    . simp only[Instr.findNow,hs,hq,j5]
    . rw[hj];simp[ir,hq,j7]
    . rw[hj];simp[lT,hq,j8]
theorem Ah{kk:Option IntKind}{k d:rs}(hk:gL kk k=true):∀{l:ae},(∀e∈l,gL kk e.1=true)->(l.map (·.1)).Nodup->(dr k l=some d↔(k,d)∈l)
 | [],_,_=>by simp[dr]
 |x::l,hl,hn=>by
  have G:=hl x (by simp);simp only[bY,cj]at hn;simp only[dr];cases hq:jd k x.1 with
  |true=>
   have e:=(jt hk G).1 hq;simp only[an,aF];constructor
   . intro h;left;rw[e,<- h]
   . rintro(h|h)
     . rw[<- h]
     . exact absurd (bA.2 ⟨(k,d),h,e⟩) hn.1
  |false=>
   have e:k≠x.1:=fun h=>by rw[(jt hk G).2 h]at hq;cases hq
   simp only[aF];rw[Ah hk (fun e he=>hl e (by simp[he])) hn.2];constructor
   . exact .inr
   . rintro(h|h)
     . exact absurd (by rw[<- h]) e
     . exact h
section
variable{kk:Option IntKind}{k:rs}
theorem Kr(hk:gL kk k=true){l Q:ae}(h:List.Perm l Q)(hl:∀e∈Q,gL kk e.1=true)(hn:(Q.map (·.1)).Nodup):dr k l=dr k Q:=by
 have hl':∀e∈l,gL kk e.1=true:=fun e he=>hl e (h.mem_iff.1 he);have pV:(l.map (·.1)).Nodup:=(h.map _).nodup_iff.2 hn;apply Option.ext;intro d;rw[Ah hk hl' pV,Ah hk hl hn,h.mem_iff]
theorem NY{v:rs}(hk:gL kk k=true){l Q:ae}(h:List.Perm l Q):(∀e∈Q,gL kk e.1=true)->(Q.map (·.1)).Nodup->List.Perm (ir k v l) (ir k v Q):=by
 induction h with
 |nil=>intro _ _;exact .refl _
 |cons x p ih=>
  intro hl hn;simp only[ir];cases jd k x.1 with
  |true=>exact .cons _ p
  |false=>exact .cons _ (ih (fun e he=>hl e (by simp[he])) (by simp at hn;exact hn.2))
 |swap x y l=>
  intro hl hn;simp only[ir];have G:=hl x (by simp);have hy:=hl y (by simp);cases hqx:jd k x.1 with
  |true=>
   have ex:=(jt hk G).1 hqx;cases hqy:jd k y.1 with
   |true=>
    have ey:=(jt hk hy).1 hqy;simp[<- ex,<- ey]at hn
   |false=>exact .swap _ _ _
  |false=>
   cases hqy:jd k y.1 with
   |true=>exact .swap _ _ _
   |false=>exact .swap _ _ _
 |trans p q Ql Qm=>
  intro hl hn;exact(Ql (fun e he=>hl e (q.mem_iff.1 he)) ((q.map _).nodup_iff.2 hn)).trans (Qm hl hn)
theorem NZ(hk:gL kk k=true){l Q:ae}(h:List.Perm l Q):(∀e∈Q,gL kk e.1=true)->(Q.map (·.1)).Nodup->List.Perm (lT k l) (lT k Q):=by
 induction h with
 |nil=>intro _ _;exact .refl _
 |cons x p ih=>
  intro hl hn;simp only[lT];cases jd k x.1 with
  |true=>exact p
  |false=>exact .cons _ (ih (fun e he=>hl e (by simp[he])) (by simp at hn;exact hn.2))
 |swap x y l=>
  intro hl hn;simp only[lT];have G:=hl x (by simp);have hy:=hl y (by simp);cases hqx:jd k x.1 with
  |true=>
   have ex:=(jt hk G).1 hqx;cases hqy:jd k y.1 with
   |true=>
    have ey:=(jt hk hy).1 hqy;simp[<- ex,<- ey]at hn
   |false=>exact .refl _
  |false=>
   cases hqy:jd k y.1 with
   |true=>exact .refl _
   |false=>exact .swap _ _ _
 |trans p q Ql Qm=>
  intro hl hn;exact(Ql (fun e he=>hl e (q.mem_iff.1 he)) ((q.map _).nodup_iff.2 hn)).trans (Qm hl hn)
end
theorem ET{φ:Nat->Option (Array Value)}{f:MapEntry->MapEntry}{x:rs×rs}(hf:∀y,lH φ x.1 (f y).key/\lH φ x.2 (f y).val):∀(l:ae) (Q:List MapEntry) (i:Nat),jW φ l Q->jW φ (l.set i x) (Q.modify i f)
 | [],_,i,r=>by simp only[jW]at r;subst r;simp[jW]
 |a::l,_,i,r=>by
  obtain⟨y,ys,r1,r2,D,rfl⟩:=r;cases i with
  |zero=>exact⟨f y,ys,(hf y).1,(hf y).2,D,by simp⟩
  |succ i=>exact⟨y,_,r1,r2,ET hf l ys i D,by simp⟩
theorem CC{φ:Nat->Option (Array Value)}:∀(l:ae) (Q:List MapEntry) (x:rs×rs) (y:MapEntry),jW φ l Q->lH φ x.1 y.key->lH φ x.2 y.val->jW φ (l++[x]) (Q++[y])
 | [],_,x,y,r,a,b=>by simp only[jW]at r;subst r;exact⟨y,[],a,b,rfl,rfl⟩
 |z::l,_,x,y,r,a,b=>by
  obtain⟨y0,ys,r1,r2,D,rfl⟩:=r;exact⟨y0,_,r1,r2,CC l ys x y D a b,rfl⟩
theorem A8{φ:Nat->Option (Array Value)}:∀(l:ae) (Q:List MapEntry) (i:Nat),jW φ l Q->jW φ (l.eraseIdx i) (Q.eraseIdx i)
 | [],_,i,r=>by simp only[jW]at r;subst r;simp[jW]
 |a::l,_,i,r=>by
  obtain⟨y,ys,r1,r2,D,rfl⟩:=r;cases i with
  |zero=>exact D
  |succ i=>exact⟨y,_,r1,r2,A8 l ys i D,rfl⟩
theorem yR{φ:Nat->Option (Array Value)}:∀{l:ae} {Q:List MapEntry},jW φ l Q->Q.length=l.length
 | [],_,r=>by simp only[jW]at r;subst r;rfl
 |_::_,_,r=>by obtain⟨y,ys,_,_,D,rfl⟩:=r;simp[yR D]
open Classical in
theorem Ai{kk:Option IntKind}{k v:rs}(hk:gL kk k=true):∀(l:ae),(∀e∈l,gL kk e.1=true)->(ir k v l).map (·.1)=if k∈l.map (·.1)then l.map (·.1)else l.map (·.1)++[k]
 | [],_=>by simp[ir]
 |x::l,hl=>by
  have G:=hl x (by simp);simp only[ir];cases hq:jd k x.1 with
  |true=>
   have e:=(jt hk G).1 hq;simp[e]
  |false=>
   have e:k≠x.1:=fun h=>by rw[(jt hk G).2 h]at hq;cases hq
   simp only[bY,Ai hk l fun e he=>hl e (by simp[he]),aF,e,false_or];split<;>simp
theorem If{k:rs}:∀(l:ae),List.Sublist (lT k l) l
 | []=>.slnil
 |x::l=>by
  simp only[lT];cases jd k x.1 with
  |true=>exact List.sublist_cons_self _ _
  |false=>exact .cons_cons _ (If l)
open Classical in
section
variable{φ:Nat->Option (Array Value)}{kd:TypeDesc}{kk:Option IntKind}{Q:ae}{gj:Array MapEntry}{eD:Nat}{k:rs}{k':Value}
theorem jX.qG{v:rs}{k' v':Value}(r:jX φ kk Q gj.toList eD)(hd:mI kd kk=true)(hk:gL kk k=true)(rk:lH φ k k')(rv:lH φ v v'):
  (Instr.findNow kd k' gj.toList 0=some none/\jX φ kk (ir k v Q) (gj.push { key:=k',val:=v',born:=eD }).toList (eD+1)) \/
  ∃(j:Nat) (e':MapEntry),Instr.findNow kd k' gj.toList 0=some (some (j,e'.val))/\gj[j]? =some e'/\lH φ k e'.key/\jX φ kk (ir k v Q) (gj.modify j fun e=>{ e with key:=k',val:=v' }).toList eD:=by
 obtain⟨l,hp,hr⟩:=r.row;have hl:∀e∈l,gL kk e.1=true:=fun e he=>r.kind e (hp.mem_iff.1 he);have Qn:=NY (v:=v) hk hp r.kind r.keys;have Ig:((ir k v Q).map (·.1)).Nodup:=by
  rw[Ai hk Q r.kind];split
  . exact r.keys
  . rename_i h;exact List.nodup_append.2 ⟨r.keys,by simp,fun a ha b hb=>by simp at hb;subst hb;intro q;subst q;exact h ha⟩
 have Ih:∀e∈ir k v Q,gL kk e.1=true:=by
  intro e he;have:e.1∈(ir k v Q).map (·.1):=bA.2 ⟨e,he,rfl⟩;rw[Ai hk Q r.kind]at this;have base:e.1∈Q.map (·.1)->gL kk e.1=true:=fun h=>by obtain⟨x,G,q⟩:=bA.1 h;rw[<- q];exact r.kind x G
  split at this
  . exact base this
  . rcases aW.1 this with h|h
    . exact base h
    . simp at h;rw[h];exact hk
 have hf:=wm hd hk rk l gj.toList 0 hr hl;cases J:dr k l with
 |none=>
  rw[J]at hf;obtain⟨N,B,_,_⟩:=hf;refine .inl ⟨N,⟨⟨_,Qn,?_⟩,Ig,Ih,?_,?_⟩⟩
  . rw[B,Array.toList_push];exact CC l gj.toList (k,v) _ hr rk rv
  . intro e he;rw[Array.toList_push]at he;rcases aW.1 he with q|q
    . have:=r.old e q;omega
    . simp at q;subst q;simp
  . rw[Array.toList_push,aY];refine List.nodup_append.2 ⟨r.born,by simp,fun a ha b hb=>?_⟩;simp at hb;subst hb;obtain⟨e,he,q⟩:=bA.1 ha;have:=r.old e he;omega
 |some d=>
  rw[J]at hf;obtain⟨j,e',_,B,h3,h4,h5,h6,h7,_⟩:=hf;simp only[Nat.sub_zero]at B h6 h7;have Mv:(gj.modify j fun e=>{ e with key:=k',val:=v' }).toList.map (·.born)=gj.toList.map (·.born):=by
   rw[Array.toList_modify];apply List.ext_getElem?;intro i;simp only[bu,List.getElem?_modify];by_cases PA:j=i
   . simp[PA];cases gj.toList[i]? <;>rfl
   . simp[PA]
  refine .inr ⟨j,e',h5,by rw[<- bO];exact B,h4,⟨⟨_,Qn,?_⟩,Ig,Ih,?_,?_⟩⟩
  . rw[h7,Array.toList_modify];exact ET (f:=fun e=>{ e with key:=k',val:=v' }) (fun y=>⟨rk,rv⟩) l gj.toList j hr
  . intro e he;have:e.born∈(gj.modify j fun e=>{ e with key:=k',val:=v' }).toList.map (·.born):=bA.2 ⟨e,he,rfl⟩;rw[Mv]at this;obtain⟨e0,he0,q⟩:=bA.1 this;rw[<- q];exact r.old e0 he0
  . rw[Mv];exact r.born
theorem jX.del(r:jX φ kk Q gj.toList eD)(hd:mI kd kk=true)(hk:gL kk k=true)(rk:lH φ k k'):
  (Instr.findNow kd k' gj.toList 0=some none/\jX φ kk (lT k Q) gj.toList eD) \/
  ∃(j:Nat) (e':MapEntry),Instr.findNow kd k' gj.toList 0=some (some (j,e'.val))/\jX φ kk (lT k Q) (gj.eraseIdxIfInBounds j).toList eD:=by
 obtain⟨l,hp,hr⟩:=r.row;have hl:∀e∈l,gL kk e.1=true:=fun e he=>r.kind e (hp.mem_iff.1 he);have Qn:=NZ hk hp r.kind r.keys;have nB:List.Sublist (lT k Q) Q:=If Q;have Ig:((lT k Q).map (·.1)).Nodup:=r.keys.sublist (nB.map _);have Ih:∀e∈lT k Q,gL kk e.1=true:=fun e he=>r.kind e (nB.mem he);have hf:=wm hd hk rk l gj.toList 0 hr hl;cases J:dr k l with
 |none=>
  rw[J]at hf;obtain⟨N,_,h3,_⟩:=hf;exact .inl ⟨N,⟨⟨l,by rw[h3]at Qn;exact Qn,hr⟩,Ig,Ih,r.old,r.born⟩⟩
 |some d=>
  rw[J]at hf;obtain⟨j,e',_,B,_,_,h5,_,_,h8⟩:=hf;simp only[Nat.sub_zero]at B h8;have ht:(gj.eraseIdxIfInBounds j).toList=gj.toList.eraseIdx j:=Array.toList_eraseIdxIfInBounds;refine .inr ⟨j,e',h5,⟨⟨_,Qn,?_⟩,Ig,Ih,?_,?_⟩⟩
  . rw[h8,ht];exact A8 l gj.toList j hr
  . intro e he;rw[ht]at he;exact r.old e ((List.eraseIdx_sublist _ _).mem he)
  . rw[ht];exact r.born.sublist ((List.eraseIdx_sublist _ _).map _)
theorem jX.look(r:jX φ kk Q gj.toList eD)(hd:mI kd kk=true)(hk:gL kk k=true)(rk:lH φ k k'):
  match dr k Q with
  |none=>Instr.findNow kd k' gj.toList 0=some none
  |some d=>∃j v',Instr.findNow kd k' gj.toList 0=some (some (j,v'))/\lH φ d v':=by
 obtain⟨l,hp,hr⟩:=r.row;have hl:∀e∈l,gL kk e.1=true:=fun e he=>r.kind e (hp.mem_iff.1 he);have hf:=wm hd hk rk l gj.toList 0 hr hl;rw[<- Kr hk hp r.kind r.keys];cases J:dr k l with
 |none=>rw[J]at hf;exact hf.1
 |some d=>
  rw[J]at hf;obtain⟨j,e',_,_,h3,_,h5,_⟩:=hf;exact⟨j,e'.val,h5,h3⟩
end
theorem jX.length{φ:Nat->Option (Array Value)}{kk:Option IntKind}{Q:ae}{gj:List MapEntry}{eD:Nat}(r:jX φ kk Q gj eD):gj.length=Q.length:=by
 obtain⟨l,hp,hr⟩:=r.row;rw[yR hr,hp.length_eq]
theorem wo{E:Env}{x:V}{d:rs}{x':Value}(e:keyOf x=some d)(r:dK E x x'):lH E.φ d x':=by
 unfold keyOf at e;split at e<;>first|(cases e;exact r)|cases e
theorem CD{x:V}{d:rs}{kd:TypeDesc}{kk:Option IntKind}(e:keyOf x=some d)(hd:mI kd kk=true)(hk:gL kk d=true):Ck kd x=true:=by
 unfold keyOf at e;split at e
 . cases e;cases kk<;>simp only[gL,aO]at hk;cases kd<;>simp only[mI,aO]at hd;rfl
 . cases e;cases kk<;>simp only[gL,aO]at hk;cases kd<;>simp only[mI,aO]at hd;rfl
 . cases e
section
variable{P:Program}{E:Env}{h:H lf}{n:Nat}{w:World}
theorem fu{b:Nat}{o:Obj}(hb:w.heap[b]? =some o)(hn:∀c el fz,o≠ .cells c el fz):(getObj b).run P w= .ok o w:=by
 simp only[getObj,Sem.run,hb]
theorem mT{b:Nat}{o o':Obj}(hb:w.heap[b]? =some o)(hn:∀c el fz,o≠ .cells c el fz):(setObj b o').run P w= .ok () { w with heap:=w.heap.setIfInBounds b o' }:=by
 simp only[setObj,Sem.run,hb]
theorem yS:∀{xs:List (V×V×Nat)} {ys:List MapEntry},kK E xs ys->ys.length=xs.length
 | [],_,r=>by simp only[kK]at r;subst r;rfl
 |_::_,_,r=>by obtain⟨y,ys,_,_,_,D,rfl⟩:=r;simp[yS D]
theorem yT{m:Nat}{Q:List (V×V×Nat)}{eD:Nat}(g:Good E h w)(W:h.get m=some (.map Q eD)):
  ∃b gj,E.ι m=some (b,0)/\w.heap[b]? =some (.map gj eD)/\kK E Q gj.toList:=by
 obtain⟨b,s,hi,hs,gj,N,B⟩:=g.rel m _ W;subst hs;exact⟨b,gj,hi,N,B⟩
theorem vf{m:Nat}{kk:Option IntKind}{Q:ae}(g:Good E h w)(W:h.get m=some (.dI kk Q)):
  ∃b gj eD,E.ι m=some (b,0)/\w.heap[b]? =some (.map gj eD)/\jX E.φ kk Q gj.toList eD:=by
 obtain⟨b,s,hi,hs,gj,eD,N,B⟩:=g.rel m _ W;subst hs;exact⟨b,gj,eD,hi,N,B⟩
theorem Zz{eH:Array TypeId}{ty:TypeId}{args:ag}{de:List Value}{v:V}(g:Good E h w)(ra:dL E args de)(e:NP P eH args h=some v):
  kz P E h n w (do pure (.value (<- Builtin.len_ eH ty de.toArray))) (.val v h n):=by
 unfold NP at e;split at e
 . rename_i t x N;obtain⟨x',_,rx,pK,rfl⟩:=ra;simp only[dL]at pK;subst pK;split at e
   . rename_i s hu;obtain rfl:=ek e;simp only[dK]at rx;subst rx;refine ee g (v':=.int .i64 s.length) ?_ rfl;have l8:(⟨s.toArray⟩:ByteArray).size=s.length:=by show s.toArray.size=_;simp
     simp[Builtin.len_,N,dD hu,goInt,l8]
   . rename_i _ k _ hu;obtain rfl:=ek e;refine ee g (v':=.int .i64 k) ?_ rfl;simp[Builtin.len_,N,dD hu,goInt]
   . rename_i a T A jC hu;obtain rfl:=ek e;refine ee g (v':=.int .i64 T) ?_ rfl;cases a with
     |none=>obtain⟨rfl,rfl,rfl⟩:=rx;simp[Builtin.len_,N,dD hu,goInt]
     |some a=>obtain⟨_,_,_,_,_,_,_,_,_,rfl⟩:=rx;simp[Builtin.len_,N,dD hu,goInt]
   . rename_i f T C hu;obtain rfl:=ek e;refine ee g (v':=.int .i64 T) ?_ rfl;obtain⟨⟨_,_,_,rfl,_⟩,_⟩:=rx;simp[Builtin.len_,N,dD hu,goInt]
   . rename_i hu;obtain rfl:=ek e;simp only[dK]at rx;subst rx;refine ee g (v':=.int .i64 0) ?_ rfl;simp[Builtin.len_,N,dD hu,goInt]
   . rename_i m hu;split at e
     . rename_i Q eD W;obtain rfl:=ek e;obtain⟨b,gj,hi,hb,Ec⟩:=yT g W;obtain⟨b',kI,rfl⟩:=rx;rw[hi]at kI;cases kI;refine ee g (v':=.int .i64 Q.length) ?_ rfl;have hl:=yS Ec;simp only[Array.length_toList]at hl;simp[Builtin.len_,N,dD hu,goInt,fu (P:=P) hb (by intro _ _ _ q;cases q),hl]
     . rename_i kk Q W;obtain rfl:=ek e;obtain⟨b,gj,eD,hi,hb,Ec⟩:=vf g W;obtain⟨b',kI,rfl⟩:=rx;rw[hi]at kI;cases kI;refine ee g (v':=.int .i64 Q.length) ?_ rfl;have hl:=Ec.length;simp only[Array.length_toList]at hl;simp[Builtin.len_,N,dD hu,goInt,fu (P:=P) hb (by intro _ _ _ q;cases q),hl]
     . cases e
   . cases e
 . cases e
theorem Ii:∀(xs:ag) (x v:V) (x':Value) (Cp:List Value),dK E x x'->dL E xs Cp->HQ x xs=some v->
  ∃v',(Cp.foldlM Builtin.max2 x').run P w= .ok v' w/\dK E v v'
 | [],x,v,x',Cp,rx,D,e=>by
   simp only[dL]at D;subst D;have:v=x:=by cases x<;>simp[HQ]at e<;>exact e.symm
   subst this;exact⟨x',rfl,rx⟩
 |y::ys,x,v,x',_,rx,D,e=>by
  obtain⟨y',Kc,ry,rys,rfl⟩:=D;cases x with
  |int k a=>cases y with
   |int j b=>
    simp only[HQ]at e;simp only[dK]at rx ry;subst rx;subst ry;obtain⟨v',N,B⟩:=Ii ys (.int k (if b>a then b else a)) v (.int k (if b>a then b else a)) Kc rfl rys e;refine⟨v',?_,B⟩;simp only[List.foldlM_cons,Sem.run_bind,Builtin.max2,Sem.run_pure,Result.andThen_ok];exact N
   |_=>simp[HQ]at e
  |_=>simp[HQ]at e
theorem Ij:∀(xs:ag) (x v:V) (x':Value) (Cp:List Value),dK E x x'->dL E xs Cp->HR x xs=some v->
  ∃v',(Cp.foldlM Builtin.min2 x').run P w= .ok v' w/\dK E v v'
 | [],x,v,x',Cp,rx,D,e=>by
   simp only[dL]at D;subst D;have:v=x:=by cases x<;>simp[HR]at e<;>exact e.symm
   subst this;exact⟨x',rfl,rx⟩
 |y::ys,x,v,x',_,rx,D,e=>by
  obtain⟨y',Kc,ry,rys,rfl⟩:=D;cases x with
  |int k a=>cases y with
   |int j b=>
    simp only[HR]at e;simp only[dK]at rx ry;subst rx;subst ry;obtain⟨v',N,B⟩:=Ij ys (.int k (if b<a then b else a)) v (.int k (if b<a then b else a)) Kc rfl rys e;refine⟨v',?_,B⟩;simp only[List.foldlM_cons,Sem.run_bind,Builtin.min2,Sem.run_pure,Result.andThen_ok];exact N
   |_=>simp[HR]at e
  |_=>simp[HR]at e
section
variable{eH:Array TypeId}{ty:TypeId}
theorem ZA{x v:V}{xs:ag}{de:List Value}(g:Good E h w)(ra:dL E (x::xs) de)(e:HQ x xs=some v):
  kz P E h n w (do pure (.value (<- Builtin.max_ eH ty de.toArray))) (.val v h n):=by
 obtain⟨x',Cp,rx,rxs,rfl⟩:=ra;obtain⟨v',N,B⟩:=Ii (P:=P) (w:=w) xs x v x' Cp rx rxs e;refine ee g (v':=v') ?_ B;simp only[Builtin.max_,Sem.run_bind,N,Result.andThen_ok,Sem.run_pure]
theorem ZB{x v:V}{xs:ag}{de:List Value}(g:Good E h w)(ra:dL E (x::xs) de)(e:HR x xs=some v):
  kz P E h n w (do pure (.value (<- Builtin.min_ eH ty de.toArray))) (.val v h n):=by
 obtain⟨x',Cp,rx,rxs,rfl⟩:=ra;obtain⟨v',N,B⟩:=Ij (P:=P) (w:=w) xs x v x' Cp rx rxs e;refine ee g (v':=v') ?_ B;simp only[Builtin.min_,Sem.run_bind,N,Result.andThen_ok,Sem.run_pure]
end
theorem N0{kd:TypeDesc}{a b:V}{a' b':Value}{r:Bool}(ra:dK E a a')(rb:dK E b b')(e:yz kd a b=some r):Instr.sameNow kd a' b'=some r:=by
 unfold yz at e;split at e
 . simp only[dK]at ra rb;subst ra;subst rb;split at e
   . rename_i hk;obtain rfl:=ek e;simp[Instr.sameNow,hk]
   . cases e
 . simp only[dK]at ra rb;subst ra;subst rb;obtain rfl:=ek e;simp only[Instr.sameNow];rw[sw]
 . cases e
theorem wq{kd:TypeDesc}{k:V}{k':Value}(rk:dK E k k'):∀(Q:List (V×V×Nat)) (gj:List MapEntry) (i:Nat) (r:Option (Nat×V×V×Nat)),kK E Q gj->uQ kd k Q i=some r->
  match r with
  |none=>Instr.findNow kd k' gj i=some none
  |some (j,e)=>∃e',i<=j/\Q[j-i]? =some e/\gj[j-i]? =some e'/\yz kd k e.1=some true/\dK E e.1 e'.key/\dK E e.2.1 e'.val/\e'.born=e.2.2/\Instr.findNow kd k' gj i=some (some (j,e'.val))
 | [],gj,i,r,D,e=>by
   simp only[kK]at D;subst D;simp only[uQ,an]at e;subst e;simp[Instr.findNow]
 |x::xs,_,i,r,D,e=>by
  obtain⟨y,ys,r1,r2,r3,D,rfl⟩:=D;simp only[uQ]at e;cases hk:yz kd k x.1 with
  |none=>simp[hk]at e
  |some b=>
   have hs:=N0 rk r1 hk;cases b with
   |true=>
    simp only[hk,an]at e;subst e;exact⟨y,aA _,by simp,by simp,hk,r1,r2,r3,by simp[Instr.findNow,hs]⟩
   |false=>
    simp only[hk]at e;have ih:=wq rk xs ys (i+1) r D e;cases r with
    |none=>simp only at ih ⊢;simp[Instr.findNow,hs,ih]
    |some q=>
     obtain⟨j,e0⟩:=q;obtain⟨e',a1,a2,a3,a4,a5,a6,a7,a8⟩:=ih;have hj:j-i=(j-(i+1))+1:=by omega
     exact⟨e',K,by rw[hj];simpa using a2,by rw[hj];simpa using a3,a4,a5,a6,a7,by simp[Instr.findNow,hs,a8]⟩
section
variable{kt:TypeId}{kd:TypeDesc}{k:V}{k':Value}{b:Bool}
theorem gJ{gj:List MapEntry}{r:Option (Nat×Value)}(hu:P.underlying kt=some kd)(e:Instr.findNow kd k' gj 0=some r):
  (Instr.findKey kt k' gj).run P w= .ok r w:=by
 simp[Instr.findKey,dD hu,e]
theorem xk(d:Nat)(hu:P.underlying kt=some kd)(rk:dK E k k')(e:Ck kd k=true):(Instr.checkKey b (d+1) kt k').run P w= .ok () w:=by
 unfold Ck at e;split at e
 . simp only[dK]at rk;subst rk;simp only[Instr.checkKey,Sem.run_bind,dD hu,Result.andThen_ok];rfl
 . simp only[dK]at rk;subst rk;simp only[Instr.checkKey,Sem.run_bind,dD hu,Result.andThen_ok];rfl
 . cases e
theorem jo(hu:P.underlying kt=some kd)(rk:dK E k k')(e:Ck kd k=true):(Instr.checkKey b 10000 kt k').run P w= .ok () w:=
 xk 9999 hu rk e
end
theorem N1{t:TypeId}{x k v:V}{ok:Bool}{x' k':Value}(g:Good E h w)(rx:dK E x x')(rk:dK E k k')(e:vY P t h x k ok=some v):
  kz P E h n w (do pure (.value (<- Instr.lookup t x' k' ok))) (.val v h n):=by
 unfold vY at e;split at e
 . rename_i kt et hu;split at e
   . rename_i kd z hk hz;split at e
     . rename_i r kk Q W;split at e
       . rename_i kq Ks;split at e
         . rename_i hb;simp only[aC]at hb;simp only[an]at e;obtain⟨z',Py,NU,_⟩:=mB (w:=w) E hz;obtain⟨b,gj,eD,hi,wY,hr⟩:=vf g W;obtain⟨b',kI,rfl⟩:=rx;rw[hi]at kI;cases kI;have uA:=fu (P:=P) wY (by intro _ _ _ q;cases q);have Mw:=CD Ks hb.1 hb.2;have Gj:=jo (P:=P) (w:=w) (b:=gj.isEmpty) hk rk Mw;have UL:=hr.look hb.1 hb.2 (wo Ks rk);cases J:dr kq Q with
           |none=>
            rw[J]at UL e;have fS:(Instr.lookup t (.map (some b)) k' ok).run P w= .ok (if ok then .tuple #[z',.bool false]else z') w:=by
             simp only[Instr.lookup,Sem.run_bind,dD hu,Result.andThen_ok,Sem.run_pure,uA,Gj,gJ hk UL,Py]
            subst e;refine ee g (v':=if ok then .tuple #[z',.bool false]else z') (by rw[Sem.run_bind,fS];rfl) ?_;cases ok with
            |true=>exact⟨[z',.bool false],⟨z',_,NU,⟨.bool false,[],rfl,rfl,rfl⟩,rfl⟩,rfl⟩
            |false=>exact NU
           |some d=>
            rw[J]at UL e;obtain⟨j,v',q1,q2⟩:=UL;have fS:(Instr.lookup t (.map (some b)) k' ok).run P w= .ok (if ok then .tuple #[v',.bool true]else v') w:=by
             simp only[Instr.lookup,Sem.run_bind,dD hu,Result.andThen_ok,Sem.run_pure,uA,Gj,gJ hk q1]
            subst e;refine ee g (v':=if ok then .tuple #[v',.bool true]else v') (by rw[Sem.run_bind,fS];rfl) ?_;cases ok with
            |true=>exact⟨[v',.bool true],⟨v',_,my d v' q2,⟨.bool true,[],rfl,rfl,rfl⟩,rfl⟩,rfl⟩
            |false=>exact my d v' q2
         . cases e
       . cases e
     rename_i x _ _ Kt;split at e
     . rename_i Mw;obtain⟨z',Py,NU,_⟩:=mB (w:=w) E hz;have Qe:∀(Q:List (V×V×Nat)) (gj:Array MapEntry),kK E Q gj.toList->(match uQ kd k Q 0 with
         |some (some (_,_,v,_))=>some (if ok then V.ew [v,.bool true]else v)
         |some none=>some (if ok then V.ew [z,.bool false]else z)
         |none=>none)=some v->
         ((Instr.findKey kt k' gj.toList).run P w= .ok none w/\dK E v (if ok then .tuple #[z',.bool false]else z')) \/
         ∃j v',(Instr.findKey kt k' gj.toList).run P w= .ok (some (j,v')) w/\dK E v (if ok then .tuple #[v',.bool true]else v'):=by
        intro Q gj Ec e;cases hf:uQ kd k Q 0 with
        |none=>simp[hf]at e
        |some r=>
         have hr:=wq rk Q gj.toList 0 r Ec hf;cases r with
         |none=>
          simp only[hf,an]at e;subst e;refine .inl ⟨gJ hk hr,?_⟩;cases ok with
          |true=>exact⟨[z',.bool false],⟨z',_,NU,⟨.bool false,[],rfl,rfl,rfl⟩,rfl⟩,rfl⟩
          |false=>exact NU
         |some q=>
          obtain⟨j,k0,v0,M⟩:=q;simp only[hf,an]at e;subst e;obtain⟨e',_,_,_,_,_,a6,_,a8⟩:=hr;refine .inr ⟨j,e'.val,gJ hk a8,?_⟩;cases ok with
          |true=>exact⟨[e'.val,.bool true],⟨e'.val,_,a6,⟨.bool true,[],rfl,rfl,rfl⟩,rfl⟩,rfl⟩
          |false=>exact a6
       cases x with
       |map m=>
        cases m with
        |none=>
         simp only at e;simp only[dK]at rx;subst rx;rcases Qe [] #[] (by simp[kK]) e with⟨m1,m3⟩|⟨j,v',m1,m3⟩
         . refine ee g ?_ m3;simp only[Instr.lookup,Sem.run_bind,dD hu,Result.andThen_ok,Sem.run_pure,jo (b:=(#[]:Array MapEntry).isEmpty) hk rk Mw,m1,Py]
         . refine ee g ?_ m3;simp only[Instr.lookup,Sem.run_bind,dD hu,Result.andThen_ok,Sem.run_pure,jo (b:=(#[]:Array MapEntry).isEmpty) hk rk Mw,m1]
        |some m=>
         simp only at e;cases W:h.get m with
         |none=>simp[W]at e
         |some o=>
          cases o with
          |map Q eD=>
           simp only[W]at e;obtain⟨b,gj,hi,hb,Ec⟩:=yT g W;obtain⟨b',kI,rfl⟩:=rx;rw[hi]at kI;cases kI;have uA:=fu (P:=P) hb (by intro _ _ _ q;cases q);rcases Qe Q gj Ec e with⟨m1,m3⟩|⟨j,v',m1,m3⟩
           . refine ee g ?_ m3;simp only[Instr.lookup,Sem.run_bind,dD hu,Result.andThen_ok,Sem.run_pure,uA,jo (b:=gj.isEmpty) hk rk Mw,m1,Py]
           . refine ee g ?_ m3;simp only[Instr.lookup,Sem.run_bind,dD hu,Result.andThen_ok,Sem.run_pure,uA,jo (b:=gj.isEmpty) hk rk Mw,m1]
          |_=>simp[W]at e
       |_=>simp at e
     . cases e
   . cases e
 . cases e
theorem qf{f:V×V×Nat->V×V×Nat}{f':MapEntry->MapEntry}(hf:∀x y,dK E x.1 y.key->dK E x.2.1 y.val->y.born=x.2.2->dK E (f x).1 (f' y).key/\dK E (f x).2.1 (f' y).val/\(f' y).born=(f x).2.2):
  ∀(xs:List (V×V×Nat)) (ys:List MapEntry) (i:Nat),kK E xs ys->kK E (th xs i f) (ys.modify i f')
 | [],_,i,r=>by simp only[kK]at r;subst r;simp[th,kK]
 |x::xs,_,i,r=>by
  obtain⟨y,ys,a,b,c,D,rfl⟩:=r;cases i with
  |zero=>obtain⟨p,q,s⟩:=hf x y a b c;exact⟨f' y,ys,p,q,s,D,by simp⟩
  |succ i=>exact⟨y,_,a,b,c,qf hf xs ys i D,by simp⟩
theorem xL:∀(xs:List (V×V×Nat)) (ys:List MapEntry) (x:V×V×Nat) (y:MapEntry),kK E xs ys->dK E x.1 y.key->dK E x.2.1 y.val->y.born=x.2.2->kK E (xs++[x]) (ys++[y])
 | [],_,x,y,r,a,b,c=>by simp only[kK]at r;subst r;exact⟨y,[],a,b,c,rfl,rfl⟩
 |z::zs,_,x,y,r,a,b,c=>by
  obtain⟨y0,ys,a0,b0,c0,D,rfl⟩:=r;exact⟨y0,_,a0,b0,c0,xL zs ys x y D a b c,rfl⟩
section
variable{m b eD clock':Nat}
theorem yU{Q uv:List (V×V×Nat)}{gj BF:Array MapEntry}(g:Good E h w)(gT:m<fP)(W:h.get m=some (.map Q eD))(hi:E.ι m=some (b,0))(hb:w.heap[b]? =some (.map gj eD))
  (Ec:kK E uv BF.toList):iG E h w E (h.set m (some (.map uv clock'))) { w with heap:=w.heap.setIfInBounds b (.map BF clock') }:=by
 have fI:b<w.heap.size:=(aQ.1 hb).1;refine iG.write g gT ⟨_,W,rfl⟩ hi (by simp) rfl rfl rfl (fun x G=>?_) ⟨rfl,BF,?_,Ec⟩
 . simp[Ne.symm G]
 . simp[fI]
theorem yV{kk:Option IntKind}{Q uv:ae}{gj BF:Array MapEntry}(g:Good E h w)(gT:m<fP)(W:h.get m=some (.dI kk Q))(hi:E.ι m=some (b,0))(hb:w.heap[b]? =some (.map gj eD))
  (Ec:jX E.φ kk uv BF.toList clock'):iG E h w E (h.set m (some (.dI kk uv))) { w with heap:=w.heap.setIfInBounds b (.map BF clock') }:=by
 have fI:b<w.heap.size:=(aQ.1 hb).1;refine iG.write g gT ⟨_,W,rfl⟩ hi (by simp) rfl rfl rfl (fun x G=>?_) ⟨rfl,BF,clock',?_,Ec⟩
 . simp[Ne.symm G]
 . simp[fI]
end
theorem CE{kd:TypeDesc}{a b:V}{a' b':Value}(ra:dK E a a')(rb:dK E b b')(e:yz kd a b=some true):(Instr.keyThatStays b' a').run P w= .ok a' w:=by
 have:Instr.sameBits 10000 b' a'=true:=by
  unfold yz at e;split at e
  . simp only[dK]at ra rb;subst ra;subst rb;split at e
    . rename_i hk;simp only[an,beq_iff_eq]at e;simp[Instr.sameBits,hk,e]
    . cases e
  . simp only[dK]at ra rb;subst ra;subst rb;simp only[an]at e;simp only[Instr.sameBits];rw[fV]at e;have hab:_=_:=eq_of_beq e;subst hab;rw[sw,fV];simp
  . cases e
 simp[Instr.keyThatStays,this]
section
variable{eH:Array TypeId}{t ty:TypeId}{m k:V}{m' k':Value}{r:nx}
theorem yW{v:V}{m' k' v':Value}{r:nx}(g:Good E h w)(rm:dK E m m')(rk:dK E k k')(rv:dK E v v')(e:tj P t h n m k v=some r):
  kz P E h n w (do Instr.mapUpdate t m' k' v';pure .skip) r:=by
 unfold tj at e;split at e
 . rename_i kt et m hu;split at e
   . rename_i kd Q eD hk W;obtain⟨b,gj,hi,hb,Ec⟩:=yT g W;obtain⟨b',kI,rfl⟩:=rm;rw[hi]at kI;cases kI;have uA:=fu (P:=P) hb (by intro _ _ _ q;cases q);have xM:∀o',(setObj b o').run P w= .ok () { w with heap:=w.heap.setIfInBounds b o' }:=fun o'=>mT (P:=P) hb (by intro _ _ _ q;cases q);split at e
     . rename_i hq;obtain⟨Mw,gT⟩:=hq;have Gj:=jo (P:=P) (w:=w) (b:=false) hk rk Mw;cases hf:uQ kd k Q 0 with
       |none=>simp[hf]at e
       |some q=>
        have hr:=wq rk Q gj.toList 0 q Ec hf;cases q with
        |none=>
         simp only[hf,an]at e;subst e;have Kq:=yU (clock':=eD+1) (uv:=Q++[(k,v,eD)]) (BF:=gj.push { key:=k',val:=v',born:=eD }) g gT W hi hb (by
          rw[Array.toList_push];exact xL Q gj.toList (k,v,eD) { key:=k',val:=v',born:=eD } Ec rk rv rfl)
         refine⟨E,_,undef,.inr ⟨?_,rfl⟩,⟨[],rfl,rfl⟩,Kq,fun _ _=>rfl,.inl ⟨rfl,rfl⟩⟩;simp only[Instr.mapUpdate,Sem.run_bind,dD hu,Result.andThen_ok,uA,Gj,gJ hk hr,xM,Sem.run_pure]
        |some q=>
         obtain⟨j,e0⟩:=q;simp only[hf,an]at e;subst e;obtain⟨e',a1,a2,a3,a4,a5,a6,a7,a8⟩:=hr;simp only[Nat.sub_zero]at a2 a3;have Ku:((gj[j]?).map (·.key)).getD k'=e'.key:=by rw[<- bO,a3];rfl
         have BC:=CE (P:=P) (w:=w) rk a5 a4;have Kq:=yU (clock':=eD) (uv:=th Q j fun e=>(k,v,e.2.2)) (BF:=gj.modify j fun e=>{ e with key:=k',val:=v' }) g gT W hi hb (by
          rw[Array.toList_modify];exact qf (f:=fun e=>(k,v,e.2.2)) (f':=fun e=>{ e with key:=k',val:=v' }) (fun x y p q s=>⟨rk,rv,s⟩) Q gj.toList j Ec)
         refine⟨E,_,undef,.inr ⟨?_,rfl⟩,⟨[],rfl,rfl⟩,Kq,fun _ _=>rfl,.inl ⟨rfl,rfl⟩⟩;simp only[Instr.mapUpdate,Sem.run_bind,dD hu,Result.andThen_ok,uA,Gj,gJ hk a8,Ku,BC,xM,Sem.run_pure]
     . cases e
   . rename_i kd kk Q hk W;split at e
     . rename_i kq vq Ks hvq;split at e
       . rename_i hb;simp only[aC,bD]at hb;obtain⟨hd,EU,gT⟩:=hb;obtain rfl:=ek e;obtain⟨b,gj,eD,hi,wY,hr⟩:=vf g W;obtain⟨b',kI,rfl⟩:=rm;rw[hi]at kI;cases kI;have uA:=fu (P:=P) wY (by intro _ _ _ q;cases q);have xM:∀o',(setObj b o').run P w= .ok () { w with heap:=w.heap.setIfInBounds b o' }:=fun o'=>mT (P:=P) wY (by intro _ _ _ q;cases q);have Mw:=CD Ks hd EU;have Gj:=jo (P:=P) (w:=w) (b:=false) hk rk Mw;rcases hr.qG hd EU (wo Ks rk) (F6 hvq rv).1 with⟨q1,q2⟩|⟨j,e',q1,q2,q3,q4⟩
         . refine⟨E,_,undef,.inr ⟨?_,rfl⟩,⟨[],rfl,rfl⟩,yV g gT W hi wY q2,fun _ _=>rfl,.inl ⟨rfl,rfl⟩⟩;simp only[Instr.mapUpdate,Sem.run_bind,dD hu,Result.andThen_ok,uA,Gj,gJ hk q1,xM,Sem.run_pure]
         . have Ku:((gj[j]?).map (·.key)).getD k'=e'.key:=by rw[q2];rfl
           have BC:(Instr.keyThatStays e'.key k').run P w= .ok k' w:=by
            have r1:=wo Ks rk;have:e'.key=k':=by
             cases kq<;>first|(simp only[lH]at q3 r1;rw[q3,r1])|(unfold keyOf at Ks;split at Ks<;>cases Ks)
            rw[this];refine CE rk rk (kd:=kd) ?_;have aro:=(jt EU EU).2 rfl;unfold keyOf at Ks;split at Ks<;>first|cases Ks|skip
            . cases kd<;>cases kk<;>simp only[mI,gL,aO]at hd EU;simp[yz]
            . cases kd<;>cases kk<;>simp only[mI,gL,aO]at hd EU;simp only[yz,fV];simp
           refine⟨E,_,undef,.inr ⟨?_,rfl⟩,⟨[],rfl,rfl⟩,yV g gT W hi wY q4,fun _ _=>rfl,.inl ⟨rfl,rfl⟩⟩;simp only[Instr.mapUpdate,Sem.run_bind,dD hu,Result.andThen_ok,uA,Gj,gJ hk q1,Ku,BC,xM,Sem.run_pure]
       . cases e
     . cases e
   . cases e
 . cases e
theorem N2{args:ag}{de:List Value}{r:nx}(g:Good E h w)(ra:dL E args de)(ha:eH.size=2)(e:F2 P eH args h n=some r):
  kz P E h n w (do pure (.value (<- Builtin.delete_ eH ty de.toArray))) r:=by
 unfold F2 at e;split at e
 . rename_i t m k N;obtain⟨m',_,rm,⟨k',_,rk,pK,rfl⟩,rfl⟩:=ra;simp only[dL]at pK;subst pK;split at e
   . rename_i kt et hu;split at e
     . rename_i kd kk Q kq hk W Ks;split at e
       . rename_i hb;simp only[aC,bD]at hb;obtain⟨hd,EU,gT⟩:=hb;obtain rfl:=ek e;obtain⟨b,gj,eD,hi,wY,hr⟩:=vf g W;obtain⟨b',kI,rfl⟩:=rm;rw[hi]at kI;cases kI;have uA:=fu (P:=P) wY (by intro _ _ _ q;cases q);have xM:∀o',(setObj b o').run P w= .ok () { w with heap:=w.heap.setIfInBounds b o' }:=fun o'=>mT (P:=P) wY (by intro _ _ _ q;cases q);have Mw:=CD Ks hd EU;have Gj:=jo (P:=P) (w:=w) (b:=gj.isEmpty) hk rk Mw;rcases hr.del hd EU (wo Ks rk)with⟨q1,q2⟩|⟨j,e',q1,q2⟩
         . refine⟨E,_,.tuple #[],.inl ?_,⟨[],rfl,rfl⟩,yV g gT W hi wY q2,fun _ _=>rfl,.inl ⟨rfl,rfl⟩⟩;simp[Builtin.delete_,N,dD hu,uA,Gj,gJ hk q1,xM]
         . refine⟨E,_,.tuple #[],.inl ?_,⟨[],rfl,rfl⟩,yV g gT W hi wY q2,fun _ _=>rfl,.inl ⟨rfl,rfl⟩⟩;simp[Builtin.delete_,N,dD hu,uA,Gj,gJ hk q1,xM]
       . cases e
     . cases e
   . cases e
 . cases e
theorem Ik(g:Good E h w)(rm:dK E m m')(rk:dK E k k')(e:zZ P t h n m k=some r):
  kz P E h n w (do pure (.value (<- Instr.mapEntry t m' k'))) r:=by
 unfold zZ at e;split at e
 . rename_i kt et m hu;split at e
   . rename_i kd Q eD z hk W hz;obtain⟨b,gj,hi,hb,Ec⟩:=yT g W;obtain⟨b',kI,rfl⟩:=rm;rw[hi]at kI;cases kI;have uA:=fu (P:=P) hb (by intro _ _ _ q;cases q);have xM:∀o',(setObj b o').run P w= .ok () { w with heap:=w.heap.setIfInBounds b o' }:=fun o'=>mT (P:=P) hb (by intro _ _ _ q;cases q);obtain⟨z',Py,NU,_⟩:=mB (w:=w) E hz;split at e
     . rename_i hq;obtain⟨Mw,gT⟩:=hq;have Gj:=jo (P:=P) (w:=w) (b:=false) hk rk Mw;cases hf:uQ kd k Q 0 with
       |none=>simp[hf]at e
       |some q=>
        have hr:=wq rk Q gj.toList 0 q Ec hf;cases q with
        |none=>
         simp only[hf,an]at e;subst e;have Kq:=yU (clock':=eD+1) (uv:=Q++[(k,z,eD)]) (BF:=gj.push { key:=k',val:=z',born:=eD }) g gT W hi hb (by
          rw[Array.toList_push];exact xL Q gj.toList (k,z,eD) { key:=k',val:=z',born:=eD } Ec rk NU rfl)
         refine⟨E,_,.tuple #[z',.int .i64 eD],.inl ?_,⟨[z',.int .i64 eD],⟨z',_,NU,⟨.int .i64 eD,[],rfl,rfl,rfl⟩,rfl⟩,rfl⟩,Kq,fun _ _=>rfl,.inl ⟨rfl,rfl⟩⟩;simp only[Instr.mapEntry,Sem.run_bind,dD hu,Result.andThen_ok,uA,Gj,gJ hk hr,Py,xM,Sem.run_pure,goInt]
        |some q=>
         obtain⟨j,e0⟩:=q;simp only[hf,an]at e;subst e;obtain⟨e',a1,a2,a3,a4,a5,a6,a7,a8⟩:=hr;simp only[Nat.sub_zero]at a2 a3;have Ku:((gj[j]?).map (·.key)).getD k'=e'.key:=by rw[<- bO,a3];rfl
         have Mv:(Option.map (fun x=>(x.born:Int)) gj[j]?).getD 0=(e0.2.2:Int):=by rw[<- bO,a3];exact aN _ a7
         have BC:=CE (P:=P) (w:=w) rk a5 a4;have Kq:=yU (clock':=eD) (uv:=th Q j fun e=>(k,e.2.1,e.2.2)) (BF:=gj.modify j fun e=>{ e with key:=k' }) g gT W hi hb (by
          rw[Array.toList_modify];exact qf (f:=fun e=>(k,e.2.1,e.2.2)) (f':=fun e=>{ e with key:=k' }) (fun x y p q s=>⟨rk,q,s⟩) Q gj.toList j Ec)
         refine⟨E,_,.tuple #[e'.val,.int .i64 e0.2.2],.inl ?_,⟨[e'.val,.int .i64 e0.2.2],⟨e'.val,_,a6,⟨.int .i64 e0.2.2,[],rfl,rfl,rfl⟩,rfl⟩,rfl⟩,Kq,fun _ _=>rfl,.inl ⟨rfl,rfl⟩⟩;simp only[Instr.mapEntry,Sem.run_bind,dD hu,Result.andThen_ok,uA,Gj,gJ hk a8,Ku,Mv,BC,xM,Sem.run_pure,goInt]
     . cases e
   . cases e
 . cases e
theorem Gk{m o l A z:Nat}{de:List Value}(g:Good E h w)(ra:dL E [.dj (some (m,o)) l A z] de)(I:0<A):
  kz P E h n w (do pure (.value (<- Builtin.unsafeSliceData_ eH ty de.toArray))) (.val (.ptr (some (m,o))) h n):=by
 obtain⟨x',_,⟨b,s,o',gp,N,B,h3,h4,h5,rfl⟩,pK,rfl⟩:=ra;simp only[dL]at pK;subst pK;have:=B I;subst this;refine ee g (v':=.pointer (some ⟨b,s+o,none⟩)) ?_ ⟨b,s,N,rfl⟩;rw[Sem.run_bind,Lib.run_unsafeSliceData_row w eH ty ⟨b,s+o,none⟩ l gp K];rfl
theorem BG{pt e:TypeId}{m:Nat}{l:Int}{AW:Bool}{t:L}{de:List Value}(g:Good E h w)(ra:dL E [.ptr (some (m,0)),.int .i64 l] de)(ha0:eH[0]? =some pt)(ha:eH.size=2)(hp:P.underlying pt=some (.pointer e))
  (W:h.get m=some (.jf e AW t)) (hl:l=t.length) (h0:0<t.length) (hce:P.cellsOf e=1) (gT:m<fP) (h63:t.length<=xD):
  kz P E h n w (do pure (.value (<- Builtin.unsafeString_ eH ty de.toArray))) (.val (.str t) (h.set m (some (.jf e true t))) n):=by
 obtain⟨x',_,⟨b,s,N,rfl⟩,⟨y',_,r2,pK,rfl⟩,rfl⟩:=ra;simp only[dL]at pK;subst pK;simp only[dK]at r2;subst r2;obtain⟨b',s',mA,c,fz,xs,wY,hs,l8,⟨BP,Kp⟩,BD,mC⟩:=g.rel m _ W;rw[N]at mA;cases mA;subst hs;have Ud:xs.length=t.length:=by rw[<- BD];simp[eT]
 have nX:t.length<=c.size:=by
  have B:=mC (t.length-1) (xs[t.length-1]'(by omega)) (ay K);have:=(aQ.1 B).1;omega
 have jZ:eH=#[pt,eH[1]'(by omega)]:=by
  apply Array.ext
  . simpa using ha
  . intro i q1 q2;have:i=0\/i=1:=by simp at q2;omega
    rcases this with rfl|rfl
    . rw[br q1]at ha0;simpa using ha0
    . rfl
 have hlb:∀(l:List Int) (k:Nat) (gy:ByteArray),(∀(j:Nat) (x:Int),l[j]? =some x->c[k+j]? =some (.int .u8 x))->(loadBytes ⟨b,k,none⟩ gy l.length).run P w= .ok ⟨gy.data++(eT l).toArray⟩ w:=by
  intro l
  induction l with
  |nil=>intro k gy _;simp[loadBytes,eT]
  |cons x l ih=>
   intro k gy hh;have e0:=hh 0 x rfl;simp only[aS,loadBytes,Sem.run_bind,run_load,Addr.ji];rw[show(⟨b,k,none⟩:Addr)=⟨b,k+0,none⟩from rfl,nv wY,e0];simp only[Result.andThen_ok];rw[ih (k+0+1) _ (fun j y hy=>by have:=hh (j+1) y (by simpa using hy);rw[<- this];congr 1;omega)];congr 1;simp[eT,ByteArray.push]
 have adW:=hlb xs 0 .empty (fun j x G=>by rw[bE];exact mC j x G);rw[Ud,BD]at adW;have Zu:w.shape? b=some (e,c.size):=by simp[World.shape?,wY]
 have adX:=Lib.liesAt_bytes (P:=P) hce (c.size/P.cellsOf e) t.length (by rw[hce];simpa using nX);have wj:t.length≠0:=by omega
 have ake:¬(9223372036854775807:Int)<(t.length:Int):=by unfold xD at h63;omega
 have akf:IntKind.i64.max=9223372036854775807:=rfl;have akg:¬(t.length:Int)<0:=by omega
 have hun:=hp;have fS:(Builtin.unsafeString_ eH ty #[.pointer (some ⟨b,0,none⟩),.int .i64 t.length]).run P w= .ok (.string ⟨t.toArray⟩) (w.freeze ⟨b,0,none⟩ t.length):=by
  rw[jZ];have akh:Builtin.unsafeString_ #[pt,eH[1]'(by omega)] ty #[.pointer (some ⟨b,0,none⟩),.int .i64 t.length]=
   (do
    let n <- asInt (.int .i64 t.length)
    if n<0 then runtimePanic (.error "unsafe.String: len out of range")
    if n>IntKind.i64.max then unsupported (.unsafePointer "String: a length above the largest int")
    if n=0 then pure (.string .empty)
    else if <- variablesAt ⟨b,0,none⟩ (<- elemOf pt) n.toNat then do
     let s <- loadBytes ⟨b,0,none⟩ .empty n.toNat
     freeze ⟨b,0,none⟩ n.toNat
     pure (.string s)
    else unsupported (.unsafePointer "String: not so many bytes at ptr")):=rfl
  rw[akh];simp[asInt,asIntOf,akf,ake,akg,wj,variablesAt,Zu,elemOf,dD hp,adX,adW]
  done
 have h00:(0:Nat)+0=0:=rfl;refine⟨E,w.freeze ⟨b,0,none⟩ t.length,.string ⟨t.toArray⟩,.inl ?_,rfl,?_,fun _ _=>rfl,.inl ⟨rfl,rfl⟩⟩
 . rw[Sem.run_bind,h00,hl];rw[fS];rfl
 . have F9:eE h m:=⟨_,W,rfl⟩;have hbs:b<w.heap.size:=(aQ.1 wY).1;refine iG.write g gT F9 N (by unfold World.freeze;rw[aI wj];simp) (by unfold World.freeze;rw[aI wj]) (by unfold World.freeze;rw[aI wj]) (by unfold World.freeze;rw[aI wj]) (fun x G=>by unfold World.freeze;rw[aI wj];simp only[cq];rw[aI (Ne.symm G)]) ?_;refine⟨c,(if fz.1==fz.2 then(0,0+t.length)else(min fz.1 0,max fz.2 (0+t.length))),xs,by unfold World.freeze;rw[aI wj];simp[cq,wY],rfl,l8,⟨.inr ?_,fun q=>by simp at q⟩,BD,mC⟩;split
   . simp
   . rename_i q;have:¬fz.1=fz.2:=by simpa using q
     simp only[bE];omega
end
theorem CF{b:Int}:∀(xs:List (V×V×Nat)) (ys:List MapEntry) (i j:Nat),kK E xs ys->z6 b xs i=some j->i<=j/\ys.findIdx? (fun e=>(e.born:Int)==b)=some (j-i)
 | [],_,i,j,r,e=>by simp[z6]at e
 |x::xs,_,i,j,r,e=>by
  obtain⟨y,ys,_,_,c,D,rfl⟩:=r;simp only[z6]at e;split at e
  . rename_i hb;obtain rfl:=ek e;refine⟨aA _,?_⟩;rw[List.findIdx?_cons,aH (by rw[c];exact hb)];simp
  . rename_i hb;obtain⟨N,B⟩:=CF xs ys (i+1) j D e;refine⟨K,?_⟩;rw[List.findIdx?_cons,aI (by rw[c];exact hb),B];simp;omega
section
variable{t:TypeId}{h':H lf}{x:V}{n':Nat}{x':Value}{r:nx}
theorem Er{m s v:V}{m' s' v':Value}{r:nx}(g:Good E h w)(rm:dK E m m')(D:dK E s s')(rv:dK E v v')(e:uR h n m s v=some r):
  kz P E h n w (do Instr.entryStore t m' s' v';pure .skip) r:=by
 unfold uR at e;split at e
 . rename_i m k b0;simp only[dK]at D;subst D;split at e
   . rename_i Q eD W;obtain⟨b,gj,hi,hb,Ec⟩:=yT g W;obtain⟨b',kI,rfl⟩:=rm;rw[hi]at kI;cases kI;have uA:=fu (P:=P) hb (by intro _ _ _ q;cases q);have xM:∀o',(setObj b o').run P w= .ok () { w with heap:=w.heap.setIfInBounds b o' }:=fun o'=>mT (P:=P) hb (by intro _ _ _ q;cases q);split at e
     . rename_i gT;cases hf:z6 b0 Q 0 with
       |none=>simp[hf]at e
       |some j=>
        simp only[hf,an]at e;subst e;obtain⟨_,B⟩:=CF Q gj.toList 0 j Ec hf;have h3:gj.findIdx? (fun e=>(e.born:Int)==b0)=some j:=by
         have q:=List.findIdx?_toArray (fun(e:MapEntry)=>(e.born:Int)==b0) gj.toList;rw[Array.toArray_toList]at q;rw[q];simpa using B
        have Kq:=yU (clock':=eD) (uv:=th Q j fun e=>(e.1,v,e.2.2)) (BF:=gj.modify j fun e=>{ e with val:=v' }) g gT W hi hb (by
         rw[Array.toList_modify];exact qf (f:=fun e=>(e.1,v,e.2.2)) (f':=fun e=>{ e with val:=v' }) (fun x y p q s=>⟨p,rv,s⟩) Q gj.toList j Ec)
        refine⟨E,_,undef,.inr ⟨?_,rfl⟩,⟨[],rfl,rfl⟩,Kq,fun _ _=>rfl,.inl ⟨rfl,rfl⟩⟩;simp only[Instr.entryStore,Sem.run_bind,uA,Result.andThen_ok,asInt,asIntOf,Sem.run_pure,h3,xM]
     . cases e
   . cases e
 . cases e
theorem A9{s:Sem Next}{o:lf}{ob:Obj}{v:V}{v':Value}(g:Good E h w)(hn:E.ι n=none)(e:newObj h n o=some (h',n'))
  (ho:∀E1 w1,w1.heap[w.heap.size]? =some ob->l7 E1 w1 w.heap.size 0 o) (hr:s.run P w= .ok (.value v') (w.alloc ob)) (hv:dK (E.put n w.heap.size 0 (jY ob)) v v'):kz P E h n w s (.val v h' n'):=by
 obtain⟨gT,rfl,rfl⟩:=kP e;exact⟨_,_,v',.inl hr,hv,iG.alloc g hn gT (ho _ _ heap_alloc_new),fun m W=>Env.fF W,.inr rfl⟩
theorem Kv(g:Good E h w)(hn:E.ι n=none)(e:newObj h n (.map [] 0)=some (h',n')):
  kz P E h n w (do pure (.value (<- Instr.makeMap t none))) (.val (.map (some n)) h' n'):=by
 refine A9 (ob:=.map #[] 0) (v':=.map (some w.heap.size)) g hn e (fun E1 w1 q=>⟨rfl,#[],q,by simp[kK]⟩) ?_ ⟨w.heap.size,Env.ff,rfl⟩;simp[Instr.makeMap]
theorem Qo(g:Good E h w)(hn:E.ι n=none)(rx:dK E x x')(e:Cm P t x h n=some r):
  kz P E h n w (do pure (.value (<- Instr.range t x'))) r:=by
 unfold Cm at e;split at e
 . rename_i s hu;simp only[dK]at rx;subst rx;cases ho:newObj h n (.nU s 0)with
   |none=>simp[ho]at e
   |some p=>
    obtain⟨h',n'⟩:=p;simp only[ho,an]at e;subst e;refine A9 (ob:=.stringIter ⟨s.toArray⟩ 0) (v':=.pointer (some ⟨w.heap.size,0,none⟩)) g hn ho (fun E1 w1 q=>⟨rfl,q⟩) ?_ ⟨w.heap.size,0,Env.ff,by simp⟩;simp[Instr.range,dD hu]
 . cases e
theorem UM{b:Bool}{t:TypeId}{x':Value}{r:nx}(g:Good E h w)(rx:dK E x x')(e:PS x b h n=some r):
  kz P E h n w (do pure (.value (<- Instr.next x' b t))) r:=by
 unfold PS at e;split at e
 . rename_i m;obtain⟨b0,s0,hi,rfl⟩:=rx;split at e
   . rename_i s pos W;obtain⟨b1,s1,ZC,gi,hb⟩:=g.rel m _ W;rw[hi]at ZC;cases ZC;subst gi;have uA:=fu (P:=P) hb (by intro _ _ _ q;cases q);have xM:∀o',(setObj b0 o').run P w= .ok () { w with heap:=w.heap.setIfInBounds b0 o' }:=fun o'=>mT (P:=P) hb (by intro _ _ _ q;cases q);have fI:b0<w.heap.size:=(aQ.1 hb).1;have l8:(⟨s.toArray⟩:ByteArray).size=s.length:=by show s.toArray.size=_;simp
     split at e
     . rename_i hp;simp only at e;split at e
       . rename_i gT;obtain rfl:=ek e;have Kq:iG E h w E (h.set m (some (.nU s (pos+(Utf8.decode ⟨s.toArray⟩ pos).2)))) { w with heap:=w.heap.setIfInBounds b0 (.stringIter ⟨s.toArray⟩ (pos+(Utf8.decode ⟨s.toArray⟩ pos).2)) }:=by
          refine iG.write g gT ⟨_,W,rfl⟩ hi (by simp) rfl rfl rfl (fun x G=>?_) ⟨rfl,?_⟩
          . simp[Ne.symm G]
          . simp[fI]
         refine⟨E,_,.tuple #[.bool true,.int .i64 pos,.int .i32 (Utf8.decode ⟨s.toArray⟩ pos).1],.inl ?_,⟨[.bool true,.int .i64 pos,.int .i32 (Utf8.decode ⟨s.toArray⟩ pos).1],⟨_,_,rfl,⟨_,_,rfl,⟨_,_,rfl,rfl,rfl⟩,rfl⟩,rfl⟩,rfl⟩,Kq,fun _ _=>rfl,.inl ⟨rfl,rfl⟩⟩;simp[Instr.next,uA,l8,hp,xM,goInt]
       . cases e
     . rename_i hp;obtain rfl:=ek e;refine ee g (v':=.tuple #[.bool false]) ?_ ⟨[.bool false],⟨_,_,rfl,rfl,rfl⟩,rfl⟩;simp[Instr.next,uA,l8,hp]
   . cases e
 . cases e
end
end
section
variable{P:Program}{E:Env}{h:H lf}{n:Nat}{w:World}{S:H V}{ρ:Operand->Value}
def mN(E:Env)(S:H V)(ρ:Operand->Value)(x:Operand):Prop:=∀v,iY S x=some v->dK E v (ρ x)
theorem vg:∀(xs:List Operand) (vs:ag),(∀x∈xs,mN E S ρ x)->uW S xs=some vs->dL E vs (xs.map ρ)
 | [],vs,_,e=>by simp only[uW,an]at e;subst e;rfl
 |x::xs,vs,hr,e=>by
  simp only[uW]at e;cases N:iY S x with
  |none=>simp[N]at e
  |some v=>cases B:uW S xs with
   |none=>simp[N,B]at e
   |some r=>
    simp only[N,B,an]at e;subst e;exact⟨ρ x,xs.map ρ,hr x (by simp) v N,vg xs r (fun y hy=>hr y (by simp[hy])) B,rfl⟩
theorem tD:∀(xs:List (Nat×Operand)) (vs:List (Nat×V)),(∀x∈xs.map (·.2),mN E S ρ x)->qA S xs=some vs->A3 E vs (xs.map fun x=>(x.1,ρ x.2))
 | [],vs,_,e=>by simp only[qA,an]at e;subst e;rfl
 |(i,x)::xs,vs,hr,e=>by
  simp only[qA]at e;cases N:iY S x with
  |none=>simp[N]at e
  |some v=>cases B:qA S xs with
   |none=>simp[N,B]at e
   |some r=>
    simp only[N,B,an]at e;subst e;exact⟨(i,ρ x),_,rfl,hr x (by simp) v N,tD xs r (fun y hy=>hr y (by simp at hy ⊢;exact .inr hy)) B,rfl⟩
theorem xN{x:Option Operand}{v:Option V}(hr:∀y,x=some y->mN E S ρ y)(e:mJ S x=some v):oy E v (x.map ρ):=by
 cases x with
 |none=>simp only[mJ,an]at e;subst e;rfl
 |some x=>
  simp only[mJ]at e;cases N:iY S x with
  |none=>simp[N]at e
  |some y=>simp only[N,an]at e;subst e;exact⟨ρ x,hr x rfl y N,rfl⟩
theorem ga{v:Option V}{r:nx}(e:ng h n v=some r):∃x,v=some x/\r= .val x h n:=by
 cases v with
 |none=>simp[ng]at e
 |some x=>simp only[ng,an]at e;exact⟨x,rfl,e.symm⟩
theorem qg{f:FuncId}{args:Array Value}(I:callee P f=true):(callFunc f args).run P w= .ok (.enter f args) w:=by
 unfold callee at I;split at I
 . rename_i fn hf;simp only[aC,bne_iff_ne,ne_eq]at I;obtain⟨N,B⟩:=I;have h3:fn.body.isNone=false:=by cases hb:fn.body<;>simp_all
   have h4:(fn.name == "runtime.NumGoroutine")=false:=by simpa using B
   simp only[callFunc,Sem.run_bind,run_program,Result.andThen_ok,hf,h4,h3,aO,cI];rfl
 . cases I
theorem Kw{c:Call}{ty:TypeId}{r:nx}(g:Good E h w)(hn:E.ι n=none)(hr:∀x∈c.operands,mN E S ρ x)(e:xg P S c h n=some r):
  kz P E h n w (do let d <- resolve ρ c ty;invoke d.target d.args) r:=by
 unfold xg at e;split at e
 . rename_i args ha;have nY:=vg (E:=E) (ρ:=ρ) c.args.toList args (fun x G=>hr x (by simp[Call.operands];exact .inr (by simpa using G))) ha;have Gl:c.args.map ρ=(c.args.toList.map ρ).toArray:=by apply Array.ext';simp
   split at e
   . rename_i b I;unfold lA at e;split at e
     . split at e
       . rename_i B;have:=NX (P:=P) (ty:=ty) g hn nY e B;simpa[resolve,I,invoke,builtin,Gl]using this
       . cases e
     . obtain⟨v,N,rfl⟩:=ga e;have:=Zz (P:=P) (n:=n) (ty:=ty) g nY N;simpa[resolve,I,invoke,builtin,Gl]using this
     . split at e
       . obtain⟨v,N,rfl⟩:=ga e;have:=ZA (P:=P) (n:=n) (eH:=c.argTypes) (ty:=ty) g nY N;simpa[resolve,I,invoke,builtin,Gl]using this
       . cases e
     . split at e
       . obtain⟨v,N,rfl⟩:=ga e;have:=ZB (P:=P) (n:=n) (eH:=c.argTypes) (ty:=ty) g nY N;simpa[resolve,I,invoke,builtin,Gl]using this
       . cases e
     . split at e
       . rename_i t v;obtain rfl:=ek e;obtain⟨x',_,⟨y,ry,rfl⟩,pK,hl⟩:=nY;simp only[dL]at pK;subst pK;have h0:(c.args.map ρ).getD 0 .nilIface= .iface t y:=by rw[Gl,hl];rfl
         refine⟨.iface t y,?_,y,ry,rfl⟩;simp only[resolve,I,pure_bind,invoke,builtin];rw[h0];rfl
       . cases e
     . obtain rfl:=ek e;show _=_;simp[resolve,I,invoke,builtin]
     . split at e
       . split at e
         . rename_i sg;obtain rfl:=ek e;have:=Gk (P:=P) (n:=n) (eH:=c.argTypes) (ty:=ty) g nY sg;simpa[resolve,I,invoke,builtin,Gl]using this
         . cases e
       . cases e
     . split at e
       . rename_i pt m l ha0;split at e
         . rename_i e0 el AW s hp W;split at e
           . rename_i hq;obtain⟨⟨q1,q2⟩,⟨rfl,q3⟩,q4,q5,q6⟩:=hq;obtain rfl:=ek e;have:=BG (P:=P) (n:=n) (eH:=c.argTypes) (ty:=ty) g nY ha0 q5 hp W q1 q2 q3 q4 q6;simpa[resolve,I,invoke,builtin,Gl]using this
           . cases e
         . cases e
       . cases e
     . split at e
       . rename_i B;have:=N2 (P:=P) (ty:=ty) g nY B e;simpa[resolve,I,invoke,builtin,Gl]using this
       . cases e
     . cases e
   . cases e
   . rename_i f I;split at e
     . rename_i gf first captured hf
       split at e
       . rename_i vh;obtain rfl:=ek e;obtain⟨f',fi,ca,N3,r1,r2,hfe⟩:=hr f (by simp[Call.operands,I]) _ hf;simp only[yC]at N3;subst N3;refine⟨fi++c.args.toList.map ρ++ca,iK (iK r1 nY) r2,.inl ⟨?_,vh⟩⟩;have oU:=qg (w:=w) (args:=(fi++c.args.toList.map ρ++ca).toArray) vh;simp only[resolve,I,hfe,Deferred.ofValue,pure_bind,invoke];rw[<- oU];congr 2;apply Array.ext';simp
       . cases e
     . rename_i m hf;obtain⟨f',fi,ca,⟨l,s,jj,N3⟩,r1,r2,hfe⟩:=hr f (by simp[Call.operands,I]) _ hf;subst N3;simp only[dL]at r1 r2;subst r1;subst r2;split at e
       . split at e
         . obtain rfl:=ek e;refine⟨c.args.toList.map ρ,nY,.inr ⟨m,l,s,rfl,jj,?_⟩⟩;simp only[resolve,I,hfe,Deferred.ofValue,pure_bind,invoke,Gl];simp
         . cases e
       . cases e
     . cases e
 . cases e
theorem Il{c:Call}{ty:TypeId}{r:nx}(hr:∀x∈c.operands,mN E S ρ x)(e:Cn S c=some r):
  kz P E h n w (do pure (.defer (<- resolve ρ c ty))) r:=by
 unfold Cn at e;split at e
 . rename_i args ha;have nY:=vg (E:=E) (ρ:=ρ) c.args.toList args (fun x G=>hr x (by simp[Call.operands];exact .inr (by simpa using G))) ha;split at e
   . rename_i f I;split at e
     . rename_i gf first captured hf
       obtain rfl:=ek e;obtain⟨f',fi,ca,N3,r1,r2,hfe⟩:=hr f (by simp[Call.operands,I]) _ hf;simp only[yC]at N3;subst N3;refine⟨ca,fi++c.args.toList.map ρ,?_,r2,iK r1 nY⟩;simp only[resolve,I,hfe,Deferred.ofValue,pure_bind];show Result.ok _ w=_;congr 3;apply Array.ext';simp
     . cases e
   . cases e
 . cases e
set_option maxHeartbeats 1000000 in
theorem mO{o:Oper}{r:nx}(g:Good E h w)(hn:E.ι n=none)(hr:∀x∈o.op.operands,mN E S ρ x)(e:dJ P o S h n=some r):kz P E h n w (execOp ρ o) r:=by
 obtain⟨dst,op,ty,pos,after,guard⟩:=o;simp only at hr;cases op<;>simp only[dJ]at e<;>simp only[Op.operands]at hr<;>simp only[execOp]
 case move x=>
  obtain⟨v,N,rfl⟩:=ga e;exact ee g rfl (hr x (by simp) v N)
 case assign x=>
  obtain⟨v,N,rfl⟩:=ga e;exact ee g rfl (hr x (by simp) v N)
 case pick c x y=>
  split at e
  . rename_i I;obtain⟨v,N,rfl⟩:=ga e;have rc:=hr c (by simp) _ I;simp only[dK]at rc;exact ee g (by simp[rc,asBool]) (hr x (by simp) v N)
  . rename_i I;obtain⟨v,N,rfl⟩:=ga e;have rc:=hr c (by simp) _ I;simp only[dK]at rc;exact ee g (by simp[rc,asBool]) (hr y (by simp) v N)
  . cases e
 case alloc t=>
  split at e
  . rename_i z hz;split at e
    . rename_i h' n' ho;obtain rfl:=ek e;exact P7 g hn hz ho
    . cases e
  . cases e
 case box t x=>
  split at e
  . rename_i v hv;split at e
    . rename_i h' n' ho;obtain rfl:=ek e;exact Zp g hn (hr x (by simp) v hv) ho
    . cases e
  . cases e
 case build t parts=>
  split at e
  . rename_i ps HG;obtain⟨v,N,rfl⟩:=ga e;have hp:=tD (E:=E) (ρ:=ρ) parts.toList ps (fun x G=>hr x (by simpa using G)) HG;have hq:A3 E ps (parts.map fun(i,x)=>(i,ρ x)).toList:=by simpa using hp
    obtain⟨v',q1,q2⟩:=NS (P:=P) (w:=w) hq N;refine ee g (v':=v') ?_ q2;simp only[Sem.run_bind,q1,Result.andThen_ok,Sem.run_pure]
  . cases e
 case buildSlice t T parts=>
  split at e
  . rename_i ps HG;have hp:=tD (E:=E) (ρ:=ρ) parts.toList ps (fun x G=>hr x (by simpa using G)) HG;have hq:A3 E ps (parts.map fun(i,x)=>(i,ρ x)).toList:=by simpa using hp
    have:=El (P:=P) (w:=w) (t:=t) (T:=T) g hn hq e;exact this
  . cases e
 case load t x=>
  split at e
  . rename_i v hv;obtain⟨u,N,rfl⟩:=ga e;exact UA g (hr x (by simp) v hv) N
  . cases e
 case store t x y=>
  split at e
  . rename_i a v ha hv;split at e
    . rename_i h' hs;obtain rfl:=ek e;exact Qa g (hr x (by simp) a ha) (hr y (by simp) v hv) hs
    . cases e
  . cases e
 case nilCheck x=>
  split at e
  . rename_i p hv;obtain rfl:=ek e;have G:=hr x (by simp) _ hv;obtain⟨b,s,q1,q2⟩:=G;rw[q2];exact ee g (v':=.pointer (some ⟨b,s+p.2,none⟩)) rfl ⟨b,s,q1,rfl⟩
  . rename_i C hv;obtain rfl:=ek e;have G:=hr x (by simp) _ hv;obtain⟨b,o,c,vs,q1,q2⟩:=G;rw[q1];exact ee g (v':=.pointer (some ⟨b,o,none⟩)) rfl ⟨b,o,c,vs,rfl,q2⟩
  . rename_i f a c hv;obtain rfl:=ek e;have G:=hr x (by simp) _ hv;obtain⟨f',a',c',q0,q1,q2,q3⟩:=G;simp only[yC]at q0;subst q0;rw[q3];exact ee g (v':=.func (.func f) a'.toArray c'.toArray) rfl ⟨_,a',c',rfl,q1,q2,rfl⟩
  . rename_i t v hv;obtain rfl:=ek e;have G:=hr x (by simp) _ hv;obtain⟨y,q1,q2⟩:=G;rw[q2];exact ee g (v':=.iface t y) rfl ⟨y,q1,rfl⟩
  . cases e
 case binOp op t x y yt=>
  split at e
  . rename_i a b ha hb;obtain⟨u,N,rfl⟩:=ga e;exact Qd g (hr x (by simp) a ha) (hr y (by simp) b hb) N
  . cases e
 case unOp op t x=>
  split at e
  . rename_i v hv;obtain⟨u,N,rfl⟩:=ga e;exact UD g (hr x (by simp) v hv) N
  . cases e
 case convert s d x=>
  split at e
  . rename_i v hv;exact Ko g hn (hr x (by simp) v hv) e
  . cases e
 case makeInterface t x=>
  split at e
  . rename_i v d hv hu;split at e
    . cases e
    . rename_i hd;obtain rfl:=ek e;have G:=hr x (by simp) v hv;refine ee g (v':=.iface t (ρ x)) ?_ ⟨ρ x,G,rfl⟩;simp only[Instr.makeInterface,Sem.run_bind,dD hu,Result.andThen_ok];cases d<;>first|(exact absurd rfl (hd _))|rfl
  . cases e
 case makeFunc f first captured=>
  split at e
  . rename_i a c ha I;split at e
    case isFalse=>cases e
    rename_i hny;obtain rfl:=ek e;have Uf:yC E f f:=by cases f<;>first|rfl|cases hny
    have r1:=vg (E:=E) (ρ:=ρ) first.toList a (fun x G=>hr x (by simp at G ⊢;exact .inl G)) ha
    have r2:=vg (E:=E) (ρ:=ρ) captured.toList c (fun x G=>hr x (by simp at G ⊢;exact .inr G)) I;refine ee g (v':=.func f (first.map ρ) (captured.map ρ)) rfl ⟨f,first.toList.map ρ,captured.toList.map ρ,Uf,r1,r2,?_⟩;congr 1<;>(apply Array.ext';simp)
  . cases e
 case makeMap t Qp=>
  cases Qp with
  |some _=>simp at e
  |none=>
   simp only at e;split at e
   . rename_i h' n' ho;obtain rfl:=ek e;exact Kv g hn ho
   . cases e
 case makeSlice t l c=>
  split at e
  . rename_i lv cv hl I;exact Gg g hn (hr l (by simp) lv hl) (hr c (by simp) cv I) e
  . cases e
 case slice t x lo hi mx=>
  split at e
  . rename_i v lov hiv mxv hv yQ Mx hmx;obtain⟨u,N,rfl⟩:=ga e;refine Qh g (hr x (by simp) v hv) (xN (fun y hy=>hr y ?_) yQ) (xN (fun y hy=>hr y ?_) Mx) (xN (fun y hy=>hr y ?_) hmx) N
    . subst hy;simp
    . subst hy;simp
    . subst hy;simp
  . cases e
 case fieldAddr t x f=>
  split at e
  . rename_i v hv;obtain⟨u,N,rfl⟩:=ga e;exact Gd g (hr x (by simp) v hv) N
  . cases e
 case field t x f=>
  split at e
  . rename_i v hv;obtain⟨u,N,rfl⟩:=ga e;exact Qf g (hr x (by simp) v hv) N
  . cases e
 case indexAddr t x i=>
  split at e
  . rename_i v iv hv hi;obtain⟨u,N,rfl⟩:=ga e;exact Ge g (hr x (by simp) v hv) (hr i (by simp) iv hi) N
  . cases e
 case index t x i=>
  split at e
  . rename_i v iv hv hi;obtain⟨u,N,rfl⟩:=ga e;exact Qg g (hr x (by simp) v hv) (hr i (by simp) iv hi) N
  . cases e
 case lookup t x k ok=>
  split at e
  . rename_i v kv hv hk;obtain⟨u,N,rfl⟩:=ga e;exact N1 g (hr x (by simp) v hv) (hr k (by simp) kv hk) N
  . cases e
 case mapUpdate t m k v=>
  split at e
  . rename_i mv kv vv W hk hv;exact yW g (hr m (by simp) mv W) (hr k (by simp) kv hk) (hr v (by simp) vv hv) e
  . cases e
 case insert t m k v=>
  split at e
  . rename_i mv kv vv W hk hv;exact yW g (hr m (by simp) mv W) (hr k (by simp) kv hk) (hr v (by simp) vv hv) e
  . cases e
 case mapEntry t m k=>
  split at e
  . rename_i mv kv W hk;exact Ik g (hr m (by simp) mv W) (hr k (by simp) kv hk) e
  . cases e
 case entryStore t m s v=>
  split at e
  . rename_i mv sv vv W hs hv;exact Er g (hr m (by simp) mv W) (hr s (by simp) sv hs) (hr v (by simp) vv hv) e
  . cases e
 case range t x=>
  split at e
  . rename_i v hv;exact Qo g hn (hr x (by simp) v hv) e
  . cases e
 case next it b=>
  split at e
  . rename_i v hv;exact UM g (hr it (by simp) v hv) e
  . cases e
 case typeAssert x xt t ok=>
  split at e
  . rename_i v hv;obtain⟨u,N,rfl⟩:=ga e;exact En g (hr x (by simp) v hv) N
  . cases e
 case extract x i=>
  split at e
  . rename_i vs hv;obtain⟨u,N,rfl⟩:=ga e;exact Km g (hr x (by simp) _ hv) N
  . cases e
 case panic x=>
  split at e
  . rename_i t v hv;obtain rfl:=ek e;obtain⟨y,q1,q2⟩:=hr x (by simp) _ hv;refine⟨.iface t y,?_,y,q1,rfl⟩;rw[q2];simp[Instr.panic]
  . cases e
 case call c=>exact Kw g hn hr e
 case defer c=>exact Il hr e
 all_goals (cases e)
end
def yX(E:Env)(S:H V)(a:Act):Prop:=∀t v,S.get t=some v->∃v',a.tmps[t]? =some v'/\dK E v v'
theorem j9{E E':Env}(h:E.le E'){S:H V}{a:Act}(r:yX E S a):yX E' S a:=fun t v e=>let⟨v',N,B⟩:=r t v e;⟨v',N,js h v v' B⟩
section
variable(a:Act){E:Env}(dst:Option Tmp){S:H V}
theorem iR(v:Value):(a.put dst v).tmps.size=a.tmps.size:=by cases dst<;>simp[Act.put]
theorem gH(v:Value):(a.put dst v).defers=a.defers:=by cases dst<;>rfl
def nD(h1:Nat)(dst:Option Tmp):Prop:=∀d,dst=some d->d<h1
theorem jH{fr':H V}{a:Act}{dst:Option Tmp}{v:V}{v':Value}(r:yX E S a)(e:jg S dst v=some fr')(hv:dK E v v')(hd:nD a.tmps.size dst):yX E fr' (a.put dst v'):=by
 cases dst with
 |none=>simp only[jg,an]at e;subst e;exact r
 |some d=>
  simp only[jg]at e;split at e
  . rename_i ht;obtain rfl:=ek e;intro t x G;rw[H.eY _ _ _ ht]at G;have fI:=hd d rfl;by_cases q:t=d
    . subst q;rw[aH rfl]at G;cases G;exact⟨v',by simp[Act.put,fI],hv⟩
    . rw[aI q]at G;obtain⟨y,N,B⟩:=r t x G;exact⟨y,by simp[Act.put,Ne.symm q,N],B⟩
  . cases e
theorem iS{a:Act}(ge:GE E)(r:yX E S a)(x:Operand):mN E S a.eval x:=by
 intro v e;cases x with
 |tmp t=>obtain⟨v',N,B⟩:=r t v e;simp only[Act.eval,cg,N];exact B
 |const c=>exact Ac e
 |func f=>simp only[iY,an]at e;subst e;exact⟨_,[],[],rfl,rfl,rfl,rfl⟩
 |global g=>exact HT ge e
end
theorem xO{E:Env}{ops:Array Oper}{o:Oper}{S:H V}{a:Act}{b:Bool}(r:∀j J9 q d,o.guard=some (j,J9)->ops[j]? =some q->q.dst=some d->∀v,S.get d=some v->∃v',a.tmps[d]? =some v'/\dK E v v')(e:iJ ops o S=some b):
  Region.wanted o (yielded ops a.tmps)=b:=by
 unfold iJ at e;unfold Region.wanted;cases hg:o.guard with
 |none=>simp only[hg,an]at e ⊢;exact e
 |some p=>
  obtain⟨j,J9⟩:=p;simp only[hg]at e ⊢;cases hj:ops[j]? with
  |none=>simp[hj]at e
  |some q=>
   simp only[hj]at e;cases hd:q.dst with
   |none=>simp[hd]at e
   |some d=>
    simp only[hd]at e;cases hf:S.get d with
    |none=>simp[hf]at e
    |some v=>
     obtain⟨v',N,B⟩:=r j J9 q d hg hj hd v hf;have hy:yielded ops a.tmps j=(match(some v':Option Value)with|some (.bool b)=>some b|_=>none):=by
      unfold yielded;rw[hj];simp only[Option.bind_some,hd,N];cases v'<;>rfl
     cases v with
     |bool b0=>
      simp only[hf,an]at e;simp only[dK]at B;subst B;rw[hy,<- e];cases b0<;>cases J9<;>rfl
     |ew vs=>
      cases vs with
      |nil=>
       simp only[hf,an]at e;obtain⟨l,hl,rfl⟩:=B;rw[hy,<- e];rfl
      |cons _ _=>simp[hf]at e
     |_=>simp[hf]at e
def qH(E:Env)(n:Nat):Prop:=∀m,n<=m->E.ι m=none
def tE(E:Env):PV->Ending->Prop
 | .ret v,.returned v'=>dK E v v'
 | .z7 v,.panicked chain=>∃v',dK E v v'/\chain=[{ v:=v',recovered:=false }]
 |_,_=>False
def fz(nx:Option Nat):Fence:={ Fence.wide with round:=nx }
def jI(E:Env)(h:H lf)(n:Nat)(w:World)(uw:PV)(h':H lf)(n':Nat)(e:Ending)(w':World):Prop:=
 ∃E',iG E h w E' h' w'/\(∀m,m<n->E'.ι m=E.ι m)/\qH E' n'/\n<=n'/\tE E' uw e
def jq(P:Program)(cf:fT):Prop:=∀f args h n uw h' n',cf f args h n=some (uw,h',n')->∀E w de,dL E args de->Good E h w->qH E n->
 (callee P f=true->Calls P f de.toArray w (jI E h n w uw h' n'))/\
 (∀m l s,f=P.funcs.size+m->E.ι m=some (l,s)->YieldAt Fence.wide 0 P l de.toArray w (jI E h n w uw h' n'))
theorem lI{nx:Option Nat}{ρ:Operand->Value}{o:Oper}(h:∀c,o.op≠ .defer c):Oper.semAt nx ρ o=execOp ρ o:=by
 cases nx with
 |none=>exact Oper.semAt_none ..
 |some l=>exact Oper.semAt_some l ρ o h
theorem Kx{S:H V}{c:Call}{r:nx}(e:Cn S c=some r):∃f a b,r= .mF f a b:=by
 unfold Cn at e;split at e
 . split at e
   . split at e
     . simp only[an]at e;exact⟨_,_,_,e.symm⟩
     . cases e
   . cases e
 . cases e
section
variable{P:Program}{E:Env}{h h':H lf}{n n':Nat}{w:World}{S:H V}{a:Act}{o:Oper}{be:Act->World->Prop}{es:Exit->Act->World->Prop}{vi:Option Nat}
theorem wu{r:nx}(e:dJ P o S h n=some r)(hr:∀f a b,r≠ .mF f a b):∀c,o.op≠ .defer c:=by
 intro c I;simp only[dJ,I]at e;obtain⟨f,x,y,q⟩:=Kx e;exact hr f x y q
theorem CG{v:V}(g:Good E h w)(hn:E.ι n=none)(hr:∀x∈o.op.operands,mN E S a.eval x)(e:dJ P o S h n=some (.val v h' n'))
  (hk:∀E' w' v',dK E' v v'->iG E h w E' h' w'->(∀m,m≠n->E'.ι m=E.ι m)->((n'=n/\E'=E)\/n'=n+1)->be (a.put o.dst v') w'):o.wpIn (fz vi) 0 P a w be es:=by
 obtain⟨E',w',v',fS,N,B,h3,h4⟩:=mO g hn hr e;refine⟨fun _ _=>trivial,?_⟩;rw[lI (wu e fun _ _ _=>by simp)];rcases fS with fS|⟨fS,rfl⟩
 . rw[fS,Oper.uponIn_value];exact hk E' w' v' N B h3 h4
 . rw[fS,Oper.uponIn_skip];exact hk E' w' undef N B h3 h4
theorem BR{cf:fT}{f:FuncId}{args:ag}{uw:PV}(oU:jq P cf)(g:Good E h w)(hn:qH E n)(hr:∀x∈o.op.operands,mN E S a.eval x)
  (e:dJ P o S h n=some (.call f args)) (ec:cf f args h n=some (uw,h',n'))
  (hk:∀E' w',iG E h w E' h' w'->(∀m,m<n->E'.ι m=E.ι m)->qH E' n'->n<=n'->
   match uw with
   | .ret v=>∀v',dK E' v v'->be (a.put o.dst v') w'
   | .z7 v=>∀v',dK E' v v'->es (.panic [{ v:=v',recovered:=false }]) a w'):o.wpIn (fz vi) 0 P a w be es:=by
 obtain⟨de,N,fS⟩:=mO g (hn n (aA _)) hr e;refine⟨fun _ _=>trivial,?_⟩;rw[lI (wu e fun _ _ _=>by simp)];have EV:∀en w',jI E h n w uw h' n' en w'->(match en,w' with
  | .returned v,w''=>be (a.put o.dst v) w''
  | .panicked chain,w''=>es (.panic chain) a w''
  | .outgrown,_=>LetsOut es):=fun en w' ⟨E',u1,u2,u3,u4,u5⟩=>by
  have:=hk E' w' u1 u2 u3 u4;cases uw with
  |ret v=>cases en with
   |returned v'=>exact this v' u5
   |panicked _=>exact u5.elim
   |outgrown=>exact u5.elim
  |z7 v=>cases en with
   |returned v'=>exact u5.elim
   |panicked chain=>obtain⟨v',q1,rfl⟩:=u5;exact this v' q1
   |outgrown=>exact u5.elim
 rcases fS with⟨fS,B⟩|⟨m,l,s,B,h3,fS⟩
 . rw[fS,Oper.uponIn_enter];have I:CallsIn Fence.wide (0-1) P f de.toArray w _:=callsIn_wide.2 (((oU f args h n uw h' n' ec E w de N g hn).1 B).mono EV);exact⟨fun hd=>by simp[fz,Fence.wide]at hd,I⟩
 . obtain⟨fn,tmps,assign,body,q1,q2⟩:=(oU f args h n uw h' n' ec E w de N g hn).2 m l s B h3;rw[fS,q1,Oper.uponIn_round];have I:RoundIn Fence.wide (0-1) P l fn tmps assign body w _:=q2.mono EV;exact⟨fun hd=>by simp[fz,Fence.wide]at hd,I⟩
theorem Qq{v:V}(g:Good E h w)(hn:E.ι n=none)(hr:∀x∈o.op.operands,mN E S a.eval x)(e:dJ P o S h n=some (.panic v))
  (hk:∀v',dK E v v'->es (.panic [{ v:=v',recovered:=false }]) a w):o.wpIn (fz vi) 0 P a w be es:=by
 obtain⟨v',fS,N⟩:=mO g hn hr e;refine⟨fun _ _=>trivial,?_⟩;rw[lI (wu e fun _ _ _=>by simp)];rw[fS,Oper.uponIn_panic];exact hk v' N
theorem ZD{f:FuncId}{c args:ag}(UN:vi=none)(g:Good E h w)(hn:E.ι n=none)(hr:∀x∈o.op.operands,mN E S a.eval x)(e:dJ P o S h n=some (.mF f c args))
  (hk:∀c' de,dL E c c'->dL E args de->be ({ a with defers:={ target:=.fn (.func f) c'.toArray,args:=de.toArray }::a.defers }.put o.dst undef) w):o.wpIn (fz vi) 0 P a w be es:=by
 subst UN;obtain⟨c',de,fS,N,B⟩:=mO g hn hr e;refine⟨fun _ _=>trivial,?_⟩;show o.uponIn (fz none) 0 P a be es ((Oper.semAt none a.eval o).run P w);rw[Oper.semAt_none,fS,Oper.uponIn_defer];exact hk c' de N B
end
def Sub(x y:H lf):Prop:=∀k b,x.get k=some b->y.get k=some b
section
variable{P:Program}{S:H V}{x:H lf}{n:Nat}
theorem Im{o:Oper}{r:nx}(hp:qB o.op=true)(e:dJ P o S x n=some r):∃v,r= .val v x n/\∀(y:H lf) (k:Nat),dJ P o S y k=some (.val v y k):=by
 obtain⟨dst,op,ty,pos,after,guard⟩:=o;simp only at hp;cases op<;>simp only[qB]at hp<;>first|(cases hp;done)|skip
 all_goals simp only[dJ]at e
 case move a=>obtain⟨v,N,rfl⟩:=ga e;exact⟨v,rfl,fun y k=>by simp only[dJ,N,ng]⟩
 case assign a=>obtain⟨v,N,rfl⟩:=ga e;exact⟨v,rfl,fun y k=>by simp only[dJ,N,ng]⟩
 case pick c a b=>
  split at e
  . rename_i I;obtain⟨v,N,rfl⟩:=ga e;exact⟨v,rfl,fun y k=>by simp only[dJ,I,N,ng]⟩
  . rename_i I;obtain⟨v,N,rfl⟩:=ga e;exact⟨v,rfl,fun y k=>by simp only[dJ,I,N,ng]⟩
  . cases e
 case build t parts=>
  split at e
  . rename_i ps I;obtain⟨v,N,rfl⟩:=ga e;exact⟨v,rfl,fun y k=>by simp only[dJ,I,N,ng]⟩
  . cases e
 case nilCheck a=>
  split at e
  . rename_i p I;obtain rfl:=ek e;exact⟨_,rfl,fun y k=>by simp only[dJ,I]⟩
  . rename_i I;obtain rfl:=ek e;exact⟨_,rfl,fun y k=>by simp only[dJ,I]⟩
  . rename_i I;obtain rfl:=ek e;exact⟨_,rfl,fun y k=>by simp only[dJ,I]⟩
  . rename_i t v I;obtain rfl:=ek e;exact⟨_,rfl,fun y k=>by simp only[dJ,I]⟩
  . cases e
 case binOp op t a b yt=>
  split at e
  . rename_i u w N B;obtain⟨v,h3,rfl⟩:=ga e;exact⟨v,rfl,fun y k=>by simp only[dJ,N,B,h3,ng]⟩
  . cases e
 case unOp op t a=>
  split at e
  . rename_i u N;obtain⟨v,h3,rfl⟩:=ga e;exact⟨v,rfl,fun y k=>by simp only[dJ,N,h3,ng]⟩
  . cases e
 case makeInterface t a=>
  split at e
  . rename_i v d N B;split at e
    . cases e
    . rename_i hd;obtain rfl:=ek e;refine⟨_,rfl,fun y k=>?_⟩;simp only[dJ,N,B]
  . cases e
 case makeFunc f a c=>
  split at e
  . rename_i u w N B;split at e
    case isFalse=>cases e
    rename_i hny;obtain rfl:=ek e;exact⟨_,rfl,fun y k=>by simp only[dJ,N,B,hny,if_true]⟩
  . cases e
 case fieldAddr t a f=>
  split at e
  . rename_i u N;obtain⟨v,h3,rfl⟩:=ga e;exact⟨v,rfl,fun y k=>by simp only[dJ,N,h3,ng]⟩
  . cases e
 case field t a f=>
  split at e
  . rename_i u N;obtain⟨v,h3,rfl⟩:=ga e;exact⟨v,rfl,fun y k=>by simp only[dJ,N,h3,ng]⟩
  . cases e
 case indexAddr t a i=>
  split at e
  . rename_i u w N B;obtain⟨v,h3,rfl⟩:=ga e;exact⟨v,rfl,fun y k=>by simp only[dJ,N,B,h3,ng]⟩
  . cases e
 case index t a i=>
  split at e
  . rename_i u w N B;obtain⟨v,h3,rfl⟩:=ga e;exact⟨v,rfl,fun y k=>by simp only[dJ,N,B,h3,ng]⟩
  . cases e
 case typeAssert a s t ok=>
  split at e
  . rename_i u N;obtain⟨v,h3,rfl⟩:=ga e;exact⟨v,rfl,fun y k=>by simp only[dJ,N,h3,ng]⟩
  . cases e
 case extract a i=>
  split at e
  . rename_i vs N;obtain⟨v,h3,rfl⟩:=ga e;exact⟨v,rfl,fun y k=>by simp only[dJ,N,h3,ng]⟩
  . cases e
section
variable{t:TypeId}{o:Oper}{a:V}{r:nx}
theorem Io{v:V}{y:H lf}(hs:Sub x y)(e:loadAt P t x a=some v):loadAt P t y a=some v:=by
 unfold loadAt at e ⊢;split at e
 . rename_i m o;split at e
   . rename_i C W;simp only[hs m _ W];exact e
   . rename_i k ks W;simp only[hs m _ W];exact e
   . rename_i k ks W;simp only[hs m _ W];exact e
   . rename_i C W;simp only[hs m _ W];exact e
   . rename_i cQ self x0 W;simp only[hs m _ W];exact e
   . cases e
 . exact e
 . cases e
theorem Gm{m k:Nat}{y:H lf}(hs:Sub x y)(e:yy x m k=true):yy y m k=true:=by
 unfold yy at e ⊢;split at e
 . rename_i C W;simp only[hs m _ W];exact e
 . cases e
theorem Ip{v:V}{lo hi mx:Option V}{y:H lf}(hs:Sub x y)(e:mH P t x a lo hi mx=some v):mH P t y a lo hi mx=some v:=by
 unfold mH at e ⊢;split at e
 . cases e
 . rename_i h0;rw[aI h0];split at e
   . exact e
   . exact e
   . exact e
   . rename_i nn el b o hu;cases N:kV P el with
     |none=>simp[N]at e
     |some s=>cases B:eO nn nn mx with
      |none=>simp[N,B]at e
      |some m=>cases h3:eO nn m hi with
       |none=>simp[N,B,h3]at e
       |some hh=>cases h4:eO 0 hh lo with
        |none=>simp[N,B,h3,h4]at e
        |some l=>
         simp only[N,B,h3,h4]at e ⊢;split at e
         . rename_i hq;rw[aH ⟨hq.1,hq.2.1,Gm hs hq.2.2⟩];exact e
         . cases e
   . cases e
theorem Gn{k v:V}{ok:Bool}{y:H lf}(hs:Sub x y)(e:vY P t x a k ok=some v):vY P t y a k ok=some v:=by
 unfold vY at e ⊢;split at e
 . split at e
   . cases a with
     |map m=>
      cases m with
      |none=>exact e
      |some m=>
       simp only[V.Yb]at e ⊢;cases W:x.get m with
       |none=>simp[W]at e
       |some o=>
        have hy:=hs m o W;rw[hy];rw[W]at e;cases o with
        |dI kk Q=>exact e
        |_=>simp only[hy];simp only[W]at e;exact e
     |_=>exact e
   . cases e
 . cases e
theorem N4{ts:Array TypeId}{as:ag}{v:V}{y:H lf}(hs:Sub x y)(e:NP P ts as x=some v):NP P ts as y=some v:=by
 unfold NP at e ⊢;split at e
 . split at e
   . exact e
   . exact e
   . exact e
   . exact e
   . exact e
   . rename_i m hu;cases W:x.get m with
     |none=>simp[W]at e
     |some o=>
      simp only[hs m o W];simp only[W]at e;exact e
   . cases e
 . cases e
theorem Ky{o:lf}{p:H lf×Nat}(e:newObj x n o=some p)(y:H lf):n<fP/\p=(x.set n (some o),n+1)/\newObj y n o=some (y.set n (some o),n+1):=by
 obtain⟨h',n'⟩:=p;obtain⟨N,rfl,rfl⟩:=kP e;exact⟨N,rfl,by simp[newObj,N]⟩
def vj(P:Program)(o:Oper)(S:H V)(x:H lf)(n:Nat)(r:nx):Prop:=
 (∃v,r= .val v x n/\∀y,Sub x y->dJ P o S y n=some (.val v y n)) \/
 (∃v b,n<fP/\r= .val v (x.set n (some b)) (n+1)/\∀y,dJ P o S y n=some (.val v (y.set n (some b)) (n+1)))
theorem vj.alloc{ob:lf}{v:V}{h':H lf}{n':Nat}(e:newObj x n ob=some (h',n'))(k:∀(y B:H lf) (m:Nat),newObj y n ob=some (B,m)->dJ P o S y n=some (.val v B m)):vj P o S x n (.val v h' n'):=by
 obtain⟨N,rfl,rfl⟩:=kP e;exact .inr ⟨v,ob,N,rfl,fun y=>k y _ _ (Ky e y).2.2⟩
theorem Es(hp:qB o.op=true)(e:dJ P o S x n=some r):vj P o S x n r:=by
 obtain⟨v,N,B⟩:=Im hp e;exact .inl ⟨v,N,fun y _=>B y n⟩
theorem quiet(hq:rC o.op=false)(e:dJ P o S x n=some r):vj P o S x n r:=by
 by_cases hp:qB o.op=true
 . exact Es hp e
 have e0:=e;obtain⟨dst,op,ty,pos,after,guard⟩:=o;simp only at hq hp;cases op<;>simp only[rC]at hq<;>first|(cases hq;done)|skip
 all_goals first|(exact absurd rfl hp)|skip
 all_goals simp only[dJ]at e
 case alloc t=>
  split at e
  . rename_i z hz;split at e
    . rename_i h' n' ho;obtain rfl:=ek e;exact vj.alloc ho fun y B m q=>by simp only[dJ,hz,q]
    . cases e
  . cases e
 case box t a=>
  split at e
  . rename_i v hv;split at e
    . rename_i h' n' ho;obtain rfl:=ek e;exact vj.alloc ho fun y B m q=>by simp only[dJ,hv,q]
    . cases e
  . cases e
 case buildSlice t T parts=>
  split at e
  . rename_i ps HG;unfold oQ at e;split at e
    . rename_i el he;split at e
      . rename_i s z hs hz;split at e
        . rename_i I;split at e
          . rename_i C hf;split at e
            . rename_i h' n' ho;obtain rfl:=ek e;exact vj.alloc ho fun y B m q=>by
               simp only[dJ,HG,oQ,he,hs,hz];rw[aH I];simp only[hf,q]
            . cases e
          . cases e
        . cases e
      . cases e
    . cases e
  . cases e
 case load t a=>
  split at e
  . rename_i v hv;obtain⟨u,N,rfl⟩:=ga e;exact .inl ⟨u,rfl,fun y hs=>by simp only[dJ,hv,Io hs N,ng]⟩
  . cases e
 case convert s d a=>
  split at e
  . rename_i v hv;unfold qz at e;split at e
    . rename_i N B;obtain rfl:=ek e;exact .inl ⟨_,rfl,fun y hs=>by simp only[dJ,hv,qz,N,B]⟩
    . rename_i N B;obtain rfl:=ek e;exact .inl ⟨_,rfl,fun y hs=>by simp only[dJ,hv,qz,N,B]⟩
    . rename_i N B;split at e
      . rename_i h3;split at e
        . rename_i h' n' ho;obtain rfl:=ek e;exact vj.alloc ho fun y UG m q=>by simp only[dJ,hv,qz,N,B,h3,q]
        . cases e
      . cases e
    . rename_i N B;split at e
      . rename_i h3;obtain rfl:=ek e;exact .inl ⟨_,rfl,fun y hs=>by simp only[dJ,hv,qz,N,B,h3]⟩
      . cases e
    . rename_i N B;split at e
      . rename_i h3;obtain rfl:=ek e;exact .inl ⟨_,rfl,fun y hs=>by simp only[dJ,hv,qz,N,B,h3]⟩
      . cases e
    . rename_i N B;split at e
      . rename_i h3;split at e
        . rename_i h4;have key:∀y:H lf,Sub x y->∀m,AY (x.get m)=AY (y.get m)\/x.get m=none:=fun y hs m=>by
           cases W:x.get m with
           |none=>exact .inr rfl
           |some o=>rw[hs m o W];exact .inl rfl
          have ad0:∀y:H lf,Sub x y->∀m,uO (x.get m)=uO (y.get m)\/x.get m=none:=fun y hs m=>by
           cases W:x.get m with
           |none=>exact .inr rfl
           |some o=>rw[hs m o W];exact .inl rfl
          rename_i m0 o0 att _ _ _;split at e
          . rename_i s0 Ga;split at e
            . rename_i hl;obtain rfl:=ek e;refine .inl ⟨_,rfl,fun y hs=>?_⟩;simp only[dJ,hv,qz,N,B,h3];rw[aH h4];rcases ad0 y hs m0 with q|q
              . rw[<- q,Ga];simp only[aH hl]
              . rw[q]at Ga;cases Ga
            . cases e
          . rename_i akj;split at e
            . rename_i ks tc;split at e
              . rename_i hl;obtain rfl:=ek e;refine .inl ⟨_,rfl,fun y hs=>?_⟩;simp only[dJ,hv,qz,N,B,h3];rw[aH h4];rcases ad0 y hs m0 with q|q
                . rw[<- q,akj];rcases key y hs m0 with q|q
                  . rw[<- q,tc];simp only[aH hl]
                  . rw[q]at tc;cases tc
                . rw[q]at tc;cases tc
              . cases e
            . rename_i tc;split at e
              . obtain rfl:=ek e;refine .inl ⟨_,rfl,fun y hs=>?_⟩;simp only[dJ,hv,qz,N,B,h3];rw[aH h4];cases uO (y.get m0)with
                |some s0=>simp
                |none=>
                 cases AY (y.get m0)with
                 |none=>rfl
                 |some ks=>simp[eT]
              . split at e
                . rename_i C W;split at e
                  . rename_i bs I;split at e
                    . rename_i s' ht;obtain rfl:=ek e;refine .inl ⟨_,rfl,fun y hs=>?_⟩;simp only[dJ,hv,qz,N,B,h3];rw[aH h4];simp only[hs _ _ W,uO,AY,I,ht]
                    . cases e
                  . cases e
                . cases e
        . cases e
      . cases e
    . cases e
  . cases e
 case makeMap t Qp=>
  cases Qp with
  |some _=>simp at e
  |none=>
   simp only at e;split at e
   . rename_i h' n' ho;obtain rfl:=ek e;exact vj.alloc ho fun y B m q=>by simp only[dJ,q]
   . cases e
 case makeSlice t l c=>
  split at e
  . rename_i lv cv N B;unfold oe at e;split at e
    . rename_i el k l0 k' c0 he;split at e
      . rename_i i z h3 h4;simp only at e;split at e
        . rename_i I;split at e
          . rename_i h' n' ho;obtain rfl:=ek e;exact vj.alloc ho fun y UG m q=>by
             simp only[dJ,N,B,oe,he,h3,h4];rw[aH I];simp only[q]
          . cases e
        . cases e
      . cases e
    . cases e
  . cases e
 case slice t a lo hi mx=>
  split at e
  . rename_i v lov hiv mxv N B h3 h4;obtain⟨u,h5,rfl⟩:=ga e;exact .inl ⟨u,rfl,fun y hs=>by simp only[dJ,N,B,h3,h4,Ip hs h5,ng]⟩
  . cases e
 case lookup t a k ok=>
  split at e
  . rename_i v kv N B;obtain⟨u,h5,rfl⟩:=ga e;exact .inl ⟨u,rfl,fun y hs=>by simp only[dJ,N,B,Gn hs h5,ng]⟩
  . cases e
 case range t a=>
  split at e
  . rename_i v hv;unfold Cm at e;split at e
    . rename_i s hu;split at e
      . rename_i h' n' ho;obtain rfl:=ek e;exact vj.alloc ho fun y UG m q=>by simp only[dJ,hv,Cm,hu,q]
      . cases e
    . cases e
  . cases e
 case call c=>
  obtain⟨cal,args,ats⟩:=c;cases cal with
  |value f=>simp at hq
  |invoke f m=>simp at hq
  |builtin b=>
   simp only[xg]at e;split at e
   . rename_i as ha;cases b<;>simp only[]at hq<;>first|(cases hq;done)|skip
     . simp only[lA]at e;obtain⟨u,h5,rfl⟩:=ga e;exact .inl ⟨u,rfl,fun y hs=>by simp only[dJ,xg,ha,lA,N4 hs h5,ng]⟩
     . simp only[lA]at e;split at e
       . obtain⟨u,h5,rfl⟩:=ga e;exact .inl ⟨u,rfl,fun y hs=>by simp only[dJ,xg,ha,lA,h5,ng]⟩
       . cases e
     . simp only[lA]at e;split at e
       . obtain⟨u,h5,rfl⟩:=ga e;exact .inl ⟨u,rfl,fun y hs=>by simp only[dJ,xg,ha,lA,h5,ng]⟩
       . cases e
   . cases e
 all_goals (cases e)
end
end
theorem CH(l:List Oper)(o:Oper):pU (l++[o])=pU l++[eS (pU l) o.after.toList]:=by simp[pU]
theorem xl:∀(l:List Oper) (gy:List Nat),(l.foldl (fun gy o=>gy++[eS gy o.after.toList]) gy).length=gy.length+l.length
 | [],gy=>by simp
 |o::l,gy=>by simp only[List.foldl_cons];rw[xl l];simp;omega
theorem Gp(l:List Oper):(pU l).length=l.length:=by unfold pU;rw[xl];simp
def mq(ops:Array Oper)(j:Nat):Nat:=match ops[j]? with
 |some o=>eS (pU (ops.toList.take j)) o.after.toList
 |none=>0
theorem EX{α:Type}{l:List α}{i:Nat}{o:α}(h:l[i]? =some o):l.take (i+1)=l.take i++[o]:=by
 rw[bG,h];rfl
theorem nE(ops:Array Oper):∀i,i<=ops.size->∀k,k<i->(pU (ops.toList.take i)).getD k 0=mq ops k
 |0,_,k,hk=>by omega
 |i+1,hi,k,hk=>by
  have ho:ops.toList[i]? =some ops[i]:=by rw[bO];exact br K
  rw[EX ho,CH];have hl:(pU (ops.toList.take i)).length=i:=by rw[Gp];simp;omega
  by_cases q:k<i
  . rw[aM,bz K,<- aM];exact nE ops i K k q
  . have:k=i:=by omega
    subst this;rw[aM,cm K,hl];simp only[Nat.sub_self,bI,Option.getD_some];unfold mq;rw[<- bO,ho]
theorem Aj(a b i:Nat):eo (a|||b) i=(eo a i||eo b i):=Nat.testBit_or a b i
theorem CI(k i:Nat):eo (2^k) i=decide (k=i):=Nat.testBit_two_pow
theorem kC(i:Nat):eo 0 i=false:=Nat.zero_testBit i
theorem xP(eC:List Nat)(k:Nat):∀Q:List Edge,eo (eS eC Q) k=true↔∃e∈Q,Region.binds .any e=true/\(e.on=k\/eo (eC.getD e.on 0) k=true)
 | []=>by simp[eS,kC]
 |e::Q=>by
  simp only[eS];by_cases hb:Region.binds .any e=true
  . rw[aH hb,Aj,Aj,CI,bU,bU,xP eC k Q];simp only[bD,aF];constructor
    . rintro(⟨x,N,B,h3⟩|h|h)
      . exact⟨x,.inr N,B,h3⟩
      . exact⟨e,.inl rfl,hb,.inl h⟩
      . exact⟨e,.inl rfl,hb,.inr h⟩
    . rintro⟨x,rfl|N,B,h3⟩
      . exact .inr h3
      . exact .inl ⟨x,N,B,h3⟩
  . rw[aI hb,xP eC k Q];simp only[aF];constructor
    . rintro⟨x,N,B,h3⟩;exact⟨x,.inr N,B,h3⟩
    . rintro⟨x,rfl|N,B,h3⟩
      . exact absurd B hb
      . exact⟨x,N,B,h3⟩
def wv(ops:Array Oper):Prop:=∀(j:Nat) (o:Oper),ops[j]? =some o->∀e∈o.after,Region.binds .any e=true->e.on<j
section
variable{ops:Array Oper}
theorem yY(he:wv ops){j k:Nat}{o:Oper}(ho:ops[j]? =some o):
  eo (mq ops j) k=true↔∃e∈o.after,Region.binds .any e=true/\(e.on=k\/eo (mq ops e.on) k=true):=by
 have hj:j<ops.size:=(aQ.1 ho).1;unfold mq;simp only[ho];rw[xP];constructor
 . rintro⟨e,N,B,h3⟩;have mA:e∈o.after:=by simpa using N
   have fI:=he j o ho e mA B;refine⟨e,mA,B,h3.imp id fun q=>?_⟩;rw[nE ops j K e.on fI]at q;exact q
 . rintro⟨e,N,B,h3⟩;have fI:=he j o ho e N B;refine⟨e,by simpa using N,B,h3.imp id fun q=>?_⟩;rw[nE ops j K e.on fI];exact q
theorem Kz(he:wv ops):∀j k,eo (mq ops j) k=true->k<j:=by
 intro j
 induction j using Nat.strongRecOn with
 |_ j ih=>
  intro k h;cases ho:ops[j]? with
  |none=>simp[mq,ho,kC]at h
  |some o=>
   obtain⟨e,N,B,h3⟩:=(yY he ho).1 h;have fI:=he j o ho e N B;rcases h3 with rfl|h3
   . exact fI
   . exact Nat.lt_trans (ih e.on fI k h3) fI
theorem EY(he:wv ops):∀j i k,eo (mq ops j) i=true->eo (mq ops i) k=true->eo (mq ops j) k=true:=by
 intro j
 induction j using Nat.strongRecOn with
 |_ j ih=>
  intro i k h h';cases ho:ops[j]? with
  |none=>simp[mq,ho,kC]at h
  |some o=>
   obtain⟨e,N,B,h3⟩:=(yY he ho).1 h;have fI:=he j o ho e N B;refine(yY he ho).2 ⟨e,N,B,.inr ?_⟩;rcases h3 with rfl|h3
   . exact h'
   . exact ih e.on fI i k h3 h'
theorem CJ(he:wv ops){fr:Nat->Prop}(hS:∀j o,fr j->ops[j]? =some o->∀e∈o.after,Region.binds .any e=true->fr e.on):
  ∀j k,fr j->eo (mq ops j) k=true->fr k:=by
 intro j
 induction j using Nat.strongRecOn with
 |_ j ih=>
  intro k hj h;cases ho:ops[j]? with
  |none=>simp[mq,ho,kC]at h
  |some o=>
   obtain⟨e,N,B,h3⟩:=(yY he ho).1 h;have hs:=hS j o hj ho e N B;rcases h3 with rfl|h3
   . exact hs
   . exact ih e.on (he j o ho e N B) k hs h3
end
structure mU(ops:Array Oper)(h1:Nat):Prop where
 yZ:wv ops
 dst:∀(j:Nat) (o:Oper),ops[j]? =some o->nD h1 o.dst
 one:∀(i j:Nat) (o q:Oper) (t:Nat),ops[i]? =some o->ops[j]? =some q->o.dst=some t->q.dst=some t->i=j
 use:∀(i j:Nat) (o q:Oper) (t:Nat),ops[i]? =some o->ops[j]? =some q->i≠j->o.dst=some t->t∈uY ops q->if i<j then eo (mq ops j) i=true else eo (mq ops i) j=true
theorem KA{ops:Array Oper}{h1:Nat}(h:PX ops h1=true):mU ops h1:=by
 unfold PX at h;rw[bt]at h;have at_:∀j o,ops[j]? =some o->(o.after.toList.all (fun e=>!Region.binds .any e||decide (e.on<j))=true/\(match o.dst with|some d=>decide (d<h1)|none=>true)=true/\
   ∀i,i<ops.size->i≠j->F5 ops (pU ops.toList) i j=true):=by
  intro j o ho;have hj:j<ops.size:=(aQ.1 ho).1;have:=h j (List.mem_range.2 hj);simp only[ho,aC,bt,List.mem_range]at this;obtain⟨⟨N,B⟩,h3⟩:=this;refine⟨by rw[bt];exact N,B,fun i hi fU=>?_⟩;have:=h3 i hi;simp only[bU]at this;rcases this with q|q
  . exact absurd (aD q) fU
  . exact q
 have W:∀j,j<ops.size->(pU ops.toList).getD j 0=mq ops j:=fun j hj=>by
  have:=nE ops ops.size (aA _) j hj;rwa [show ops.toList.take ops.size=ops.toList from by rw[bq];simp]at this
 refine⟨?_,?_,?_,?_⟩
 . intro j o ho e he hb;obtain⟨N,_,_⟩:=at_ j o ho;rw[bt]at N;have:=N e (by simpa using he);simp only[hb,Bool.not_true,Bool.false_or,bD]at this;exact this
 . intro j o ho d hd;obtain⟨_,B,_⟩:=at_ j o ho;rw[hd]at B;simpa using B
 . intro i j o q t hi hj ho hq;by_cases e:i=j
   . exact e
   . obtain⟨_,_,h3⟩:=at_ j q hj;have:=h3 i (aQ.1 hi).1 e;simp only[F5,hi,hj,ho,hq,aC,Bool.not_eq_true']at this;have N:=this.1;rw[cO]at N;cases N
 . intro i j o q t hi hj fU ho ht;obtain⟨_,_,h3⟩:=at_ j q hj;have Qr:=(aQ.1 hi).1;have Pz:=(aQ.1 hj).1;have:=h3 i Qr fU;have I:(uY ops q).contains t=true:=by simpa using ht
   simp only[F5,hi,hj,ho,aC,I,if_true,W i Qr,W j Pz]at this;have B:=this.2;split
   . rename_i q;rw[aH q]at B;exact B
   . rename_i q;rw[aI q]at B;exact B
abbrev xQ:=Nat×Nat×H lf×Nat
def eF(h0:H lf)(c0:Nat)(dH:List xQ):Nat->Nat×H lf×Nat
 |0=>(0,h0,c0)
 |c+1=>match dH[c]? with
  |some e=>e.2
  |none=>(0,h0,c0)
section
variable{h0:H lf}{c0:Nat}{dH:List xQ}{e:xQ}
theorem qI{c:Nat}(h:c<=dH.length):eF h0 c0 (dH++[e]) c=eF h0 c0 dH c:=by
 cases c with
 |zero=>rfl
 |succ c=>simp only[eF];rw[bz K]
theorem xS:eF h0 c0 (dH++[e]) (dH.length+1)=e.2:=by
 simp[eF]
end
def tF(h0:H lf)(c0:Nat)(dH:List xQ):Nat->List (Nat×Nat×H lf)
 |0=>[]
 |c+1=>match dH[c]? with
  |some e=>(e.1,(eF h0 c0 dH c).1,(eF h0 c0 dH c).2.1)::tF h0 c0 dH c
  |none=>tF h0 c0 dH c
theorem Ba{h0:H lf}{c0:Nat}{dH:List xQ}{e:xQ}:∀c,c<=dH.length->tF h0 c0 (dH++[e]) c=tF h0 c0 dH c
 |0,_=>rfl
 |c+1,h=>by
  simp only[tF];rw[bz K,qI K,Ba c K]
structure Ak(ops:Array Oper)(kA:H V)(val:Nat->V)(j:Nat)(S:H V):Prop where
 new:∀(i:Nat) (o:Oper) (t:Nat),i<j->ops[i]? =some o->o.dst=some t->S.get t=some (val i)
 old:∀(t:Nat),(∀(i:Nat) (o:Oper),i<j->ops[i]? =some o->o.dst≠some t)->S.get t=kA.get t
section
variable(P:Program)(cf:fT)(ops:Array Oper)(M:Nat)(h0:H lf)(kA:H V)
def vk(val:Nat->V)(c7:af)(reads:List (Nat×Nat×Oper×H V×V))(dH:List xQ)(j:Nat)(o:Oper):Prop:=
 ∃S,Ak ops kA val j S/\
  ((iJ ops o S=some false/\val j= .ew []) \/
   (iJ ops o S=some true/\rC o.op=false/\(∃b,(j,b)∈c7/\M+j<fP/\∀y,dJ P o S y (M+j)=some (.val (val j) (y.set (M+j) (some b)) (M+j+1)))) \/
   (iJ ops o S=some true/\rC o.op=false/\(∀y,dJ P o S y (M+j)=some (.val (val j) y (M+j)))) \/
   (iJ ops o S=some true/\rC o.op=false/\(j,mq ops j,o,S,val j)∈reads/\
    ∀c,c<=dH.length->(∀(c':Nat) (e:xQ),c<=c'->dH[c']? =some e->eo (mq ops j) e.1=false)->(∀(c':Nat) (e:xQ),c'<c->dH[c']? =some e->eo e.2.1 j=false)->
     ∃y,dJ P o S (gY M c7 (eF h0 (M+ops.size) dH c).1 (eF h0 (M+ops.size) dH c).2.1 (mq ops j)) (M+j)=some (.val (val j) y (M+j))) \/
   (iJ ops o S=some true/\rC o.op=true/\∃c h n,dH[c]? =some (j,mq ops j,h,n)/\
    (let x:=eF h0 (M+ops.size) dH c
     (dJ P o S (gY M c7 x.1 x.2.1 (mq ops j)) x.2.2=some (.val (val j) h n)) \/
     ∃f args,dJ P o S (gY M c7 x.1 x.2.1 (mq ops j)) x.2.2=some (.call f args)/\cf f args (gY M c7 x.1 x.2.1 (mq ops j)) x.2.2=some (.ret (val j),h,n))))
def sE(val:Nat->V)(j:Nat)(o:Oper)(b:lf):Prop:=
 ∃S,Ak ops kA val j S/\iJ ops o S=some true/\rC o.op=false/\M+j<fP/\b.wr=true/\∀y,dJ P o S y (M+j)=some (.val (val j) (y.set (M+j) (some b)) (M+j+1))
structure oV(val:Nat->V)(dH:List xQ)(i:Nat)(d:Dr):Prop where
 eC:d.eC=pU (ops.toList.take i)
 S:Ak ops kA val i d.S
 cur:d.cur=((eF h0 (M+ops.size) dH dH.length).1,(eF h0 (M+ops.size) dH dH.length).2.1)
 n:d.n=(eF h0 (M+ops.size) dH dH.length).2.2
 qa:d.qa=tF h0 (M+ops.size) dH dH.length
 last:d.last=(dH.getLast?).map (·.1)
 vl:∀(c:Nat) (e:xQ),dH[c]? =some e->e.1<i/\∃o:Oper,ops[e.1]? =some o/\rC o.op=true/\e.2.1=mq ops e.1
 c7:∀x∈d.c7,x.1<i
 one:∀(j:Nat) (b b':lf),(j,b)∈d.c7->(j,b')∈d.c7->b=b'
 Al:∀(c:Nat) (e:xQ) (o:Oper),dH[c]? =some e->ops[e.1]? =some o->∃S,Ak ops kA val e.1 S/\iJ ops o S=some true
 BS:∀(j:Nat) (o:Oper) (b:lf),(j,b)∈d.c7->ops[j]? =some o->sE P ops M kA val j o b
 chain:∀(c c':Nat) (e e':xQ),c'<c->dH[c]? =some e->dH[c']? =some e'->eo (mq ops e.1) e'.1=true
 ZE:∀(j:Nat) (o:Oper),j<i->ops[j]? =some o->vk P cf ops M h0 kA val d.c7 d.reads dH j o
end
mutual
theorem UO:∀(a b:rs),rs.beq a b=true->a=b
 | .bool a,b,h=>by cases b<;>simp[rs.beq]at h;rw[h]
 | .int k a,b,h=>by cases b<;>simp[rs.beq]at h;rw[h.1,h.2]
 | .str a,b,h=>by
   cases b<;>simp only[rs.beq]at h<;>first|(cases h;done)|skip
   rw[fV]at h;rw[eq_of_beq h]
 | .dS n a,b,h=>by
   cases b<;>simp only[rs.beq]at h<;>first|(cases h;done)|skip
   simp only[aC]at h;rw[aD h.1,vn _ _ h.2]
 | .agg a,b,h=>by
   cases b<;>simp only[rs.beq]at h<;>first|(cases h;done)|skip
   rw[vn _ _ h]
theorem vn:∀(a b:ai),rs.p9 a b=true->a=b
 | [],b,h=>by cases b<;>simp[rs.p9]at h;rfl
 |x::xs,b,h=>by
  cases b with
  |nil=>simp[rs.p9]at h
  |cons y ys=>
   simp only[rs.p9,aC]at h;rw[UO x y h.1,vn xs ys h.2]
end
mutual
theorem N5:∀(a:rs),rs.beq a a=true
 | .bool a=>by simp[rs.beq]
 | .int k a=>by simp[rs.beq]
 | .str a=>by simp only[rs.beq];rw[fV];simp
 | .dS n a=>by simp only[rs.beq,cO,qJ a,Bool.and_self]
 | .agg a=>by simp only[rs.beq,qJ a]
theorem qJ:∀(a:ai),rs.p9 a a=true
 | []=>rfl
 |x::xs=>by simp only[rs.p9,N5 x,qJ xs,Bool.and_self]
end
mutual
theorem beq_eq:∀(a b:V),V.beq a b=true->a=b
 | .bool a,b,h=>by cases b<;>simp[V.beq]at h;rw[h]
 | .int k a,b,h=>by cases b<;>simp[V.beq]at h;rw[h.1,h.2]
 | .str a,b,h=>by
   cases b<;>simp only[V.beq]at h<;>first|(cases h;done)|skip
   rw[fV]at h;rw[eq_of_beq h]
 | .ptr a,b,h=>by
   cases b<;>simp only[V.beq]at h<;>first|(cases h;done)|skip
   rw[CK _ _ h]
 | .dj a l c e,b,h=>by
   cases b<;>simp only[V.beq]at h<;>first|(cases h;done)|skip
   simp only[aC]at h;obtain⟨⟨⟨N,B⟩,h3⟩,h4⟩:=h;rw[CK _ _ N,aD B,aD h3,aD h4]
 | .map a,b,h=>by
   cases b<;>simp only[V.beq]at h<;>first|(cases h;done)|skip
   rename_i c;cases a<;>cases c<;>simp only[F3]at h<;>first|(cases h;done)|skip
   . rfl
   . rw[aD h]
 | .fn f a c,b,h=>by
   cases b<;>simp only[V.beq]at h<;>first|(cases h;done)|skip
   rename_i g b d;simp only[aC]at h;obtain⟨⟨N,B⟩,h3⟩:=h;rw[tG a b B,tG c d h3];cases f<;>cases g<;>simp only[PW]at N<;>first|(cases N;done)|skip
   all_goals rw[aD N]
 | .kB,b,h=>by cases b<;>simp only[V.beq]at h<;>first|(cases h;done)|rfl
 | .iface t x,b,h=>by
   cases b<;>simp only[V.beq]at h<;>first|(cases h;done)|skip
   rename_i u y;simp only[aC]at h;rw[aD h.1,beq_eq x y h.2]
 | .nilIface,b,h=>by cases b<;>simp only[V.beq]at h<;>first|(cases h;done)|rfl
 | .agg a,b,h=>by
   cases b<;>simp only[V.beq]at h<;>first|(cases h;done)|skip
   rw[tG _ _ h]
 | .ew a,b,h=>by
   cases b<;>simp only[V.beq]at h<;>first|(cases h;done)|skip
   rw[tG _ _ h]
 | .dS f n a,b,h=>by
   cases b<;>simp only[V.beq]at h<;>first|(cases h;done)|skip
   simp only[aC,beq_iff_eq]at h;rw[h.1,aD h.2.1,vn _ _ h.2.2]
 | .dx a,b,h=>by
   cases b<;>simp only[V.beq]at h<;>first|(cases h;done)|skip
   rw[vn _ _ h]
theorem tG:∀(a b:ag),V.p9 a b=true->a=b
 | [],b,h=>by cases b<;>simp only[V.p9]at h<;>first|(cases h;done)|rfl
 |x::xs,b,h=>by
  cases b<;>simp only[V.p9]at h<;>first|(cases h;done)|skip
  simp only[aC]at h;rw[beq_eq x _ h.1,tG xs _ h.2]
theorem CK:∀(a b:Option (Nat×Nat)),rz a b=true->a=b
 |none,b,h=>by cases b<;>simp only[rz]at h<;>first|(cases h;done)|rfl
 |some (x,y),b,h=>by
  cases b<;>simp only[rz]at h<;>first|(cases h;done)|skip
  simp only[aC]at h;rw[aD h.1,aD h.2]
end
theorem y4{P:Program}{M i:Nat}{o:Oper}{S:H V}{v:V}{x:H lf}(h:mR P M i o S v x=true):∃y,dJ P o S x (M+i)=some (.val v y (M+i)):=by
 unfold mR at h;split at h
 . rename_i u y k e;simp only[aC]at h;have N:=aD h.1;have B:=beq_eq _ _ h.2;subst N;subst B;exact⟨y,e⟩
 . cases h
theorem N6{M i:Nat}{b:lf}{l:af}{m:Nat}{x:H lf}{iu:Nat}(h:eo iu i=false):gY M ((i,b)::l) m x iu=gY M l m x iu:=by
 simp[gY,h]
theorem EZ{P:Program}{M i:Nat}{o:Oper}{S:H V}{v:V}{c7:af}{iu:Nat}{h0:H lf}{c0:Nat}{dH:List xQ}:
  ∀k,k<=dH.length->qC P M i o S v c7 iu (tF h0 c0 dH k)=true->∀c,c<k->(∀(c':Nat) (e:xQ),c<=c'->c'<k->dH[c']? =some e->eo iu e.1=false)->
   ∃y,dJ P o S (gY M c7 (eF h0 c0 dH c).1 (eF h0 c0 dH c).2.1 iu) (M+i)=some (.val v y (M+i))
 |0,_,_,c,I,_=>by omega
 |k+1,hk,h,c,I,hn=>by
  have he:dH[k]? =some dH[k]:=ay K;simp only[tF,he,qC]at h;have hb:=hn k dH[k] K K he;rw[hb]at h;simp only[aO,cI,aC]at h;by_cases q:c=k
  . subst q;exact y4 h.1
  . exact EZ k K h.2 c K fun c' e N B h3=>hn c' e N K h3
theorem CL{P:Program}{M:Nat}{c7:af}{m:Nat}{x:H lf}:∀(l:List (Nat×Nat×Oper×H V×V)),qb P M c7 m x l=true->
  ∀j iu o S v,(j,iu,o,S,v)∈l->eo m j=false->∃y,dJ P o S (gY M c7 m x iu) (M+j)=some (.val v y (M+j))
 | [],_,j,iu,o,S,v,W,_=>by simp at W
 |(j',atv,o',fr',v')::l,h,j,iu,o,S,v,W,hb=>by
  simp only[qb,aC,bU]at h;rcases aF.1 W with q|q
  . cases q;rcases h.1 with N|N
    . rw[hb]at N;cases N
    . exact y4 N
  . exact CL l h.2 j iu o S v q hb
section
variable{P:Program}{cf:fT}{ops:Array Oper}{M h1:Nat}{h0:H lf}{kA:H V}
section
variable{val ja:Nat->V}{j i:Nat}{S:H V}
theorem Ak.mono(h:Ak ops kA val j S)(hv:∀k,k<j->ja k=val k):Ak ops kA ja j S:=
 ⟨fun i o t hi ho hd=>by rw[hv i hi];exact h.new i o t hi ho hd,h.old⟩
theorem Ak.step{fr':H V}{o:Oper}{v:V}(hr:mU ops h1)(ho:ops[i]? =some o)(h:Ak ops kA val i S)(hv:∀k,k<i->ja k=val k)(hi:ja i=v)
  (e:jg S o.dst v=some fr'):Ak ops kA ja (i+1) fr':=by
 have h':=h.mono hv;cases hd:o.dst with
 |none=>
  rw[hd]at e;simp only[jg,an]at e;subst e;refine⟨fun k q t hk hq ht=>?_,fun t ht=>h'.old t fun k q hk hq=>ht k q K hq⟩;by_cases c:k=i
  . subst c;rw[ho]at hq;cases hq;rw[hd]at ht;cases ht
  . exact h'.new k q t K hq ht
 |some d=>
  rw[hd]at e;simp only[jg]at e;split at e
  . rename_i gT;obtain rfl:=ek e;refine⟨fun k q t hk hq ht=>?_,fun t ht=>?_⟩
    . by_cases c:k=i
      . subst c;rw[ho]at hq;cases hq;rw[hd]at ht;cases ht;rw[H.nr _ _ gT,hi]
      . have fU:t≠d:=by
         intro q';subst q';exact c (hr.one k i q o t hq ho ht hd)
        rw[H.qD _ _ gT fU];exact h'.new k q t K hq ht
    . have fU:t≠d:=by intro q;subst q;exact ht i o K ho hd
      rw[H.qD _ _ gT fU];exact h'.old t fun k q hk hq=>ht k q K hq
  . cases e
theorem ZF{he:wv ops}{j i:Nat}(h:j<=i):eo (mq ops j) i=false:=by
 cases q:eo (mq ops j) i with
 |false=>rfl
 |true=>have:=Kz he j i q;omega
end
theorem sE.mono{val ja:Nat->V}{j:Nat}{o:Oper}{b:lf}(h:sE P ops M kA val j o b)(hv:∀k,k<=j->ja k=val k):sE P ops M kA ja j o b:=by
 obtain⟨S,f1,f2,f3,f4,f6,f5⟩:=h;exact⟨S,f1.mono fun k hk=>hv k K,f2,f3,f4,f6,fun y=>by rw[hv j (aA _)];exact f5 y⟩
section
variable{val ja:Nat->V}{c7:af}{reads:List (Nat×Nat×Oper×H V×V)}{dH:List xQ}
theorem vk.quiet{k9:af}{reads xT:List (Nat×Nat×Oper×H V×V)}{dH:List xQ}{j:Nat}{o:Oper}
  (h:vk P cf ops M h0 kA val c7 reads dH j o) (hv:∀k,k<=j->ja k=val k) (ha:∀x∈c7,x∈k9) (hr:∀x∈reads,x∈xT)
  (My:∀m x,gY M k9 m x (mq ops j)=gY M c7 m x (mq ops j)):vk P cf ops M h0 kA ja k9 xT dH j o:=by
 obtain⟨S,f1,f2⟩:=h;refine⟨S,f1.mono fun k hk=>hv k K,?_⟩;have hj:=hv j (aA _);rw[hj];rcases f2 with q|⟨q1,q2,b,q3,q4,q5⟩|q|⟨q1,q2,q3,q4⟩|⟨q1,q2,c,h,n,q3,q4⟩
 . exact .inl q
 . exact .inr (.inl ⟨q1,q2,b,ha _ q3,q4,q5⟩)
 . exact .inr (.inr (.inl q))
 . refine .inr (.inr (.inr (.inl ⟨q1,q2,hr _ q3,fun c I N B=>?_⟩)));rw[My];exact q4 c I N B
 . refine .inr (.inr (.inr (.inr ⟨q1,q2,c,h,n,q3,?_⟩)));simp only[My];exact q4
theorem vk.effect{e:xQ}{j:Nat}{o:Oper}
  (h:vk P cf ops M h0 kA val c7 reads dH j o) (hv:∀k,k<=j->ja k=val k) (iy:qb P M c7 e.2.1 e.2.2.1 reads=true):
  vk P cf ops M h0 kA ja c7 reads (dH++[e]) j o:=by
 obtain⟨S,f1,f2⟩:=h;refine⟨S,f1.mono fun k hk=>hv k K,?_⟩;have hj:=hv j (aA _);rw[hj];rcases f2 with q|q|q|⟨q1,q2,q3,q4⟩|⟨q1,q2,c,h,n,q3,q4⟩
 . exact .inl q
 . exact .inr (.inl q)
 . exact .inr (.inr (.inl q))
 . refine .inr (.inr (.inr (.inl ⟨q1,q2,q3,fun c I N B=>?_⟩)));simp only[ax,aS,bR]at I;by_cases cl:c<=dH.length
   . rw[qI cl];refine q4 c cl (fun c' e' wz BH=>N c' e' wz ?_) (fun c' e' wz BH=>B c' e' wz ?_)
     . rw[bz (aG.1 BH).1];exact BH
     . rw[bz (aG.1 BH).1];exact BH
   . have oO:c=dH.length+1:=by omega
     subst oO;rw[xS];exact CL reads iy j _ o S _ q3 (B dH.length e K (by simp))
 . have I:=(aG.1 q3).1;refine .inr (.inr (.inr (.inr ⟨q1,q2,c,h,n,by rw[bz I];exact q3,?_⟩)));rw[qI K];exact q4
end
section
variable{val:Nat->V}{dH:List xQ}{i:Nat}
theorem N7{d:Dr}(hr:mU ops h1)(f:oV P cf ops M h0 kA val dH i d)(hl:z8 (mq ops i) d.last=true):
  ∀(c:Nat) (e:xQ),dH[c]? =some e->eo (mq ops i) e.1=true:=by
 intro c e he;have I:=(aG.1 he).1;rw[f.last]at hl;have hg:dH.getLast? =some (dH[dH.length-1]'(by omega)):=by
  rw[List.getLast?_eq_getElem?,ay]
 rw[hg]at hl;simp only[bj,z8]at hl;by_cases q:c=dH.length-1
 . subst q;rw[ay K]at he;cases he;exact hl
 . exact EY hr.yZ i _ _ hl (f.chain (dH.length-1) c _ e K (ay K) he)
theorem E5{d d':Dr}{o:Oper}{v:V}{h:H lf}{n:Nat}(hr:mU ops h1)(ho:ops[i]? =some o)(f:oV P cf ops M h0 kA val dH i d)
  (hw:iJ ops o d.S=some true) (CM:rC o.op=true) (hl:z8 (mq ops i) d.last=true) (ha:kJ P M i (mq ops i) o d v h n=some d')
  (W:pU (ops.toList.take (i+1))=d.eC++[mq ops i])
  (run:(dJ P o d.S (gY M d.c7 d.cur.1 d.cur.2 (mq ops i)) d.n=some (.val v h n)) \/
   ∃g args,dJ P o d.S (gY M d.c7 d.cur.1 d.cur.2 (mq ops i)) d.n=some (.call g args)/\cf g args (gY M d.c7 d.cur.1 d.cur.2 (mq ops i)) d.n=some (.ret v,h,n)):
  ∃ja vo,oV P cf ops M h0 kA ja vo (i+1) d':=by
 unfold kJ at ha;split at ha
 . rename_i S hp;split at ha
   . rename_i iy;obtain rfl:=ek ha
     let ja:Nat->V:=fun k=>if k=i then v else val k
     have Iq:ja i=v:=by simp[ja]
     have hv:∀k,k<i->ja k=val k:=fun k hk=>by simp[ja,show k≠i by omega]
     refine⟨ja,dH++[(i,mq ops i,h,n)],?_⟩;have iQ:(dH++[(i,mq ops i,h,n)]).length=dH.length+1:=by simp
     refine⟨W.symm,f.S.step hr ho hv Iq hp,?_,?_,?_,by simp,?_,fun x G=>by have:=f.c7 x G;omega,f.one,fun c e q he hq=>?_,fun j q b hb hq=>(f.BS j q b hb hq).mono fun k hk=>hv k (by have:=f.c7 _ hb;simp at this;omega),?_,?_⟩
     . rw[iQ,xS]
     . rw[iQ,xS]
     . rw[iQ];simp only[tF];rw[cm K];simp only[Nat.sub_self,bI];rw[qI (aA _),Ba _ (aA _),<- f.qa,f.cur]
     . intro c e he;by_cases q:c<dH.length
       . rw[bz q]at he;obtain⟨N,B⟩:=f.vl c e he;exact⟨K,B⟩
       . have I:=(aG.1 he).1;simp at I;have:c=dH.length:=by omega
         subst this;simp at he;subst he;exact⟨by simp,o,ho,CM,rfl⟩
     . by_cases q2:c<dH.length
       . rw[bz q2]at he;obtain⟨N,_⟩:=f.vl c e he;obtain⟨xU,g1,g2⟩:=f.Al c e q he hq;exact⟨xU,g1.mono fun k hk=>hv k K,g2⟩
       . have I:=(aG.1 he).1;simp at I;have:c=dH.length:=by omega
         subst this;simp at he;subst he;simp only at hq;rw[ho]at hq;cases hq;exact⟨d.S,f.S.mono hv,hw⟩
     . intro c c' e e' Yi he BH;have I:=(aG.1 he).1;simp at I;have wz:c'<dH.length:=by omega
       rw[bz wz]at BH;by_cases q:c<dH.length
       . rw[bz q]at he;exact f.chain c c' e e' Yi he BH
       . have:c=dH.length:=by omega
         subst this;simp at he;subst he;exact N7 hr f hl c' e' BH
     . intro j q hj hq;by_cases c:j=i
       . subst c;rw[ho]at hq;cases hq;refine⟨d.S,f.S.mono hv,.inr (.inr (.inr (.inr ⟨hw,CM,dH.length,h,n,by simp,?_⟩)))⟩;rw[qI (aA _),Iq];have ad1:=f.cur;have hn:=f.n;have e1:d.cur.1=(eF h0 (M+ops.size) dH dH.length).1:=by rw[ad1]
         have e2:d.cur.2=(eF h0 (M+ops.size) dH dH.length).2.1:=by rw[ad1]
         rw[e1,e2,hn]at run;exact run
       . exact(f.ZE j q K hq).effect (fun k hk=>hv k K) iy
   . cases ha
 . cases ha
theorem KB{d d':Dr}{o:Oper}(hr:mU ops h1)(ho:ops[i]? =some o)(f:oV P cf ops M h0 kA val dH i d)
  (e:uX P cf ops M i o d=some (.inl d')):∃ja vo,oV P cf ops M h0 kA ja vo (i+1) d':=by
 have hi:i<ops.size:=(aQ.1 ho).1;have BI:eS d.eC o.after.toList=mq ops i:=by rw[f.eC];unfold mq;rw[ho]
 have W:pU (ops.toList.take (i+1))=d.eC++[mq ops i]:=by
  rw[EX (by rw[bO];exact ho),CH,<- f.eC,BI]
 unfold uX at e;simp only[BI]at e;have wA:∀(v:V) (S:H V) (k9:af) (xT:List (Nat×Nat×Oper×H V×V)),jg d.S o.dst v=some S->(∀x∈d.c7,x∈k9)->(∀x∈d.reads,x∈xT)->
   (∀j m x,j<=i->gY M k9 m x (mq ops j)=gY M d.c7 m x (mq ops j))->(∀x∈k9,x.1<i+1)->(∀j b b',(j,b)∈k9->(j,b')∈k9->b=b')->
   (∀ja,(∀k,k<i->ja k=val k)->ja i=v->∀b,(i,b)∈k9->sE P ops M kA ja i o b)->(∀x∈k9,x.1≠i->x∈d.c7)->
   (∀ja,(∀k,k<i->ja k=val k)->ja i=v->vk P cf ops M h0 kA ja k9 xT dH i o)->
   ∃ja vo,oV P cf ops M h0 kA ja vo (i+1) { d with S:=S,eC:=d.eC++[mq ops i],c7:=k9,reads:=xT }:=by
  intro v S k9 xT hp ha ZG My hai Kl hal akk pM
  let ja:Nat->V:=fun k=>if k=i then v else val k
  have Iq:ja i=v:=by simp[ja]
  have hv:∀k,k<i->ja k=val k:=fun k hk=>by simp[ja,show k≠i by omega]
  refine⟨ja,dH,⟨W.symm,f.S.step hr ho hv Iq hp,f.cur,f.n,f.qa,f.last,fun c e he=>?_,hai,Kl,fun c e q he hq=>?_,fun j q b hb hq=>?_,f.chain,fun j q hj hq=>?_⟩⟩
  . obtain⟨N,B⟩:=f.vl c e he;exact⟨K,B⟩
  . obtain⟨N,_⟩:=f.vl c e he;obtain⟨xU,g1,g2⟩:=f.Al c e q he hq;exact⟨xU,g1.mono fun k hk=>hv k K,g2⟩
  . by_cases c:j=i
    . subst c;rw[ho]at hq;cases hq;exact hal ja hv Iq b hb
    . have Gq:=akk _ hb c;exact(f.BS j q b Gq hq).mono fun k hk=>hv k (by have:=f.c7 _ Gq;simp at this;omega)
  . by_cases c:j=i
    . subst c;rw[ho]at hq;cases hq;exact pM ja hv Iq
    . exact(f.ZE j q K hq).quiet (fun k hk=>hv k K) ha ZG fun m x=>My j m x K
 have e1:d.cur.1=(eF h0 (M+ops.size) dH dH.length).1:=by rw[f.cur]
 have e2:d.cur.2=(eF h0 (M+ops.size) dH dH.length).2.1:=by rw[f.cur]
 split at e
 . rename_i hw;split at e
   . rename_i S hp;simp only[an,Sum.inl.injEq]at e;subst e;exact wA (.ew []) S d.c7 d.reads hp (fun _ h=>h) (fun _ h=>h) (fun _ _ _ _=>rfl) (fun x G=>by have:=f.c7 x G;omega) f.one (fun _ _ _ b hb=>by have:=f.c7 _ hb;simp at this) (fun _ G _=>G)
      fun ja hv Iq=>⟨d.S,f.S.mono hv,.inl ⟨hw,Iq⟩⟩
   . cases e
 . rename_i hw;split at e
   . rename_i CM;split at e
     . rename_i hl;split at e
       . rename_i v h n hs;split at e
         . rename_i s' ha;simp only[an,Sum.inl.injEq]at e;subst e;exact E5 hr ho f hw CM hl ha W (.inl hs)
         . cases e
       . rename_i g args hs;split at e
         . rename_i v h n I;split at e
           . rename_i s' ha;simp only[an,Sum.inl.injEq]at e;subst e;exact E5 hr ho f hw CM hl ha W (.inr ⟨g,args,hs,I⟩)
           . cases e
         . split at e
           . cases e
           . cases e
         . cases e
       . cases e
     . cases e
   . rename_i CM;have Ir:rC o.op=false:=by simpa using CM
     split at e
     . rename_i v h k hs;split at e
       . rename_i S hp;have hq:=quiet Ir hs;split at e
         . rename_i hk;have uH:=aD hk;subst uH;split at e
           . rename_i ad2;simp only[an,Sum.inl.injEq]at e;subst e;obtain⟨u,N,B⟩:=Im ad2 hs;cases N;exact wA v S d.c7 d.reads hp (fun _ h=>h) (fun _ h=>h) (fun _ _ _ _=>rfl) (fun x G=>by have:=f.c7 x G;omega) f.one (fun _ _ _ b hb=>by have:=f.c7 _ hb;simp at this) (fun _ G _=>G)
              fun ja hv Iq=>⟨d.S,f.S.mono hv,.inr (.inr (.inl ⟨hw,Ir,fun y=>by rw[Iq];exact B y _⟩))⟩
           . split at e
             . rename_i qa;simp only[an,Sum.inl.injEq]at e;subst e;refine wA v S d.c7 ((i,mq ops i,o,d.S,v)::d.reads) hp (fun _ h=>h) (fun x G=>by simp[G]) (fun _ _ _ _=>rfl) (fun x G=>by have:=f.c7 x G;omega) f.one (fun _ _ _ b hb=>by have:=f.c7 _ hb;simp at this) (fun _ G _=>G)
                fun ja hv Iq=>⟨d.S,f.S.mono hv,.inr (.inr (.inr (.inl ⟨hw,Ir,by simp[Iq],fun c I N _=>?_⟩)))⟩
               rw[Iq];by_cases q:c=dH.length
               . subst q;rw[<- e1,<- e2];exact⟨h,hs⟩
               . rw[f.qa]at qa;exact EZ dH.length (aA _) qa c K fun c' e' q1 _ q3=>N c' e' q1 q3
             . cases e
         . rename_i hk;split at e
           . rename_i b hb;split at e
             case isFalse=>cases e
             rename_i hwr;simp only[an,Sum.inl.injEq]at e;subst e;rcases hq with⟨u,N,_⟩|⟨u,b',N,B,h3⟩
             . cases N;exact absurd (cO _) hk
             . cases B;rw[H.nr _ _ N]at hb;cases hb;refine wA v S ((i,b)::d.c7) d.reads hp (fun x G=>by simp[G]) (fun _ h=>h) (fun j m x hj=>N6 (ZF (he:=hr.yZ) hj)) (fun x G=>?_) (fun j c c' I wz=>?_) (fun ja hv Iq c I=>?_) (fun x G fU=>?_)
                fun ja hv Iq=>⟨d.S,f.S.mono hv,.inr (.inl ⟨hw,Ir,b,by simp,N,fun y=>by rw[Iq];exact h3 y⟩)⟩
               . rcases aF.1 G with rfl|G
                 . simp
                 . have:=f.c7 x G;omega
               . rcases aF.1 I with q|q<;>rcases aF.1 wz with q'|q'
                 . cases q;cases q';rfl
                 . cases q;have:=f.c7 _ q';simp at this
                 . cases q';have:=f.c7 _ q;simp at this
                 . exact f.one j c c' q q'
               . rcases aF.1 I with q|q
                 . cases q;exact⟨d.S,f.S.mono hv,hw,Ir,N,hwr,fun y=>by rw[Iq];exact h3 y⟩
                 . have:=f.c7 _ q;simp at this
               . rcases aF.1 G with q|q
                 . cases q;exact absurd rfl fU
                 . exact q
           . cases e
       . cases e
     . cases e
 . cases e
end
theorem KC(S:H V)(h:H lf):oV P cf ops M h S (fun _=>.kB) [] 0 { S:=S,eC:=[],cur:=(0,h),qa:=[],last:=none,c7:=[],reads:=[],n:=M+ops.size }:=by
 refine⟨by simp[pU],⟨fun i o t hi=>by omega,fun t _=>rfl⟩,rfl,rfl,rfl,rfl,fun c e he=>by simp at he,fun x G=>by simp at G,fun j b b' hb=>by simp at hb,fun c e o he=>by simp at he,fun j o b hb=>by simp at hb,fun c c' e e' _ he=>by simp at he,fun j o hj=>by omega⟩
theorem E6(hr:mU ops h1):∀(l:List Oper) (i:Nat) (d:Dr) (val:Nat->V) (dH:List xQ) (r:Dr ⊕ (H V×V×H lf×Nat)),l=ops.toList.drop i->oV P cf ops M h0 kA val dH i d->
  rD P cf ops M l i d=some r->
  match r with
  | .inl d'=>∃ja vo,oV P cf ops M h0 kA ja vo (max i ops.size) d'
  | .inr x=>∃j o d' ja vo,ops[j]? =some o/\oV P cf ops M h0 kA ja vo j d'/\uX P cf ops M j o d'=some (.inr x)
 | [],i,d,val,dH,r,hl,f,e=>by
   simp only[rD,an]at e;subst e;have hi:ops.size<=i:=by
    have:=aN List.length hl;simp at this;omega
   rw[Nat.max_eq_left hi];exact⟨val,dH,f⟩
 |o::l,i,d,val,dH,r,hl,f,e=>by
  have hi:i<ops.size:=by
   have:=aN List.length hl;simp at this;omega
  have ho:ops[i]? =some o:=by
   have:=aN (fun x=>x[0]?) hl;simp at this;exact this.symm
  have hl':l=ops.toList.drop (i+1):=by
   have:=aN List.tail hl;simpa using this
  simp only[rD]at e;split at e
  . rename_i s' hs;obtain⟨ja,vo,f'⟩:=KB hr ho f hs;have:=E6 hr l (i+1) s' ja vo r hl' f' e;cases r with
    |inl d'=>rw[show max (i+1) ops.size=max i ops.size by omega]at this;exact this
    |inr x=>exact this
  . rename_i x G;cases r with
    |inl d'=>exact absurd e (G d')
    |inr y=>exact⟨i,o,d,val,dH,ho,f,e⟩
end
theorem Good.ext{E:Env}{h h':H lf}{w:World}(g:Good E h w)(e:∀k,h'.get k=h.get k):Good E h' w:=g.sub fun m o q=>by rw[<- e];exact q
theorem iG.ext{E E':Env}{h h' B:H lf}{w w':World}(u:iG E h w E' h' w')(e:∀k,B.get k=h'.get k):iG E h w E' B w':=
 ⟨u.le,u.good.ext e,u.size,u.tape,u.os,u.output,u.keep,fun m b s W q hb=>let⟨m0,s0,a1,a2,a3⟩:=u.s9 m b s (by rw[<- e];exact W) q hb;⟨m0,s0,a1,a2,fun c=>a3 (P5 (e m) c)⟩,u.Ea⟩
theorem iG.frame{E E':Env}{h x y z:H lf}{w w':World}(g:Good E h w)(G:Sub x h)(u:iG E x w E' y w')
  (hz:∀k,z.get k=match y.get k with|some o=>some o|none=>if x.get k=none then h.get k else none):iG E h w E' z w':=by
 have rest:∀k o,h.get k=some o->x.get k=none->∃b s,E.ι k=some (b,s)/\E'.ι k=some (b,s)/\E'.β b=E.β b/\b<w.heap.size/\w'.heap[b]? =w.heap[b]?/\(∀m s',eE y m->E'.ι m≠some (b,s'))/\(o.wr=true->∀m s',y.get m≠none->E'.ι m≠some (b,s'))/\l7 E w b s o:=by
  intro k o hk hxk;obtain⟨b,s,N,B⟩:=g.rel k o hk;have hb:=g.mK k b s N;have fU:∀m,x.get m≠none->m≠k:=by intro m W e;subst e;exact W hxk
  have sB:∀m s',eE x m->E.ι m≠some (b,s'):=by
   intro m s' W q;exact g.inj m k b s' s (fU m W.live) (gz G W) (by rw[hk];simp) q N
  have akn:o.wr=true->∀m s',x.get m≠none->E.ι m≠some (b,s'):=by
   intro ho m s' W q;exact g.inj k m b s s' (fun e=>fU m W e.symm) ⟨o,hk,ho⟩ (nu G W) N q
  refine⟨b,s,N,(u.le.nm k b s N).1,(u.le.nm k b s N).2,hb,u.keep b hb sB,?_,?_,B⟩
  . intro m s' W q;obtain⟨m0,s0,a1,a2,a3⟩:=u.s9 m b s' W.live q hb;exact sB m0 s0 (a3 W) a2
  . intro ho m s' W q;obtain⟨m0,s0,a1,a2,a3⟩:=u.s9 m b s' W q hb;exact akn ho m0 s0 a1 a2
 have zc:∀k o,z.get k=some o->y.get k=some o\/(y.get k=none/\x.get k=none/\h.get k=some o):=by
  intro k o q;rw[hz]at q;split at q
  . rename_i o' hy;cases q;exact .inl hy
  . rename_i hy;split at q
    . rename_i PB;exact .inr ⟨hy,PB,q⟩
    . cases q
 have old:∀k o b s,h.get k=some o->o.wr=true->x.get k=none->E.ι k=some (b,s)->∀c,E'.φ b≠some c:=by
  intro k o b s hk ho hxk e c I;rcases u.Ea b c I with q|q|⟨m,s',q1,q2⟩
  . exact(g.gQ b c q).2 k s ⟨o,hk,ho⟩ e
  . have:=g.mK k b s e;omega
  . exact g.inj m k b s' s (fun q=>by subst q;exact q1.live hxk) (gz G q1) (by rw[hk];simp) q2 e
 refine⟨u.le,⟨?_,?_,u.good.mK,u.good.jh,fun b c I=>⟨(u.good.gQ b c I).1,fun m s W e=>?_⟩⟩,u.size,u.tape,u.os,u.output,?_,?_,?_⟩
 case refine_3=>
  obtain⟨o,W,ho⟩:=W;rcases zc m o W with ym|⟨ym,PB,hh⟩
  . exact(u.good.gQ b c I).2 m s ⟨o,ym,ho⟩ e
  . obtain⟨b',t,N,B,_⟩:=rest m o hh PB;rw[B]at e;cases e;exact old m o b s hh ho PB N c I
 case refine_6=>
  intro b c I;rcases u.Ea b c I with q|q|⟨m,s,q1,q2⟩
  . exact .inl q
  . exact .inr (.inl q)
  . exact .inr (.inr ⟨m,s,gz G q1,q2⟩)
 . intro m o W;rcases zc m o W with hy|⟨hy,PB,W⟩
   . exact u.good.rel m o hy
   . obtain⟨b,s,N,B,h3,h4,h5,h6,h6',h7⟩:=rest m o W PB;exact⟨b,s,B,gU u.le h3 h5 h7⟩
 . intro m m' b s s' fU W tr e e';obtain⟨o,W,ho⟩:=W;obtain⟨o',tr⟩:=bh.1 tr;rcases zc m o W with ym|⟨ym,PB,hh⟩
   . rcases zc m' o' tr with ym'|⟨ym',ZH,hh'⟩
     . exact u.good.inj m m' b s s' fU ⟨o,ym,ho⟩ (by rw[ym'];simp) e e'
     . obtain⟨b',t,N,B,h3,h4,h5,h6,h6',h7⟩:=rest m' o' hh' ZH;rw[B]at e';cases e';exact h6 m s ⟨o,ym,ho⟩ e
   . obtain⟨b',t,N,B,h3,h4,h5,h6,h6',h7⟩:=rest m o hh PB;rw[B]at e;cases e;rcases zc m' o' tr with ym'|⟨ym',ZH,hh'⟩
     . exact h6' ho m' s' (by rw[ym'];simp) e'
     . obtain⟨b2,t2,k1,k2,_⟩:=rest m' o' hh' ZH;rw[k2]at e';cases e';exact g.inj m m' _ _ _ fU ⟨o,hh,ho⟩ (by rw[hh'];simp) N k1
 . intro b hb hn;exact u.keep b hb fun m s W=>hn m s (gz G W)
 . intro m b s W e hb;obtain⟨o,W⟩:=bh.1 W;have hw:eE z m->o.wr=true:=by rintro⟨o2,q1,q2⟩;rw[W]at q1;cases q1;exact q2
   rcases zc m o W with ym|⟨ym,PB,hh⟩
   . obtain⟨m0,s0,a1,a2,a3⟩:=u.s9 m b s (by rw[ym];simp) e hb;exact⟨m0,s0,nu G a1,a2,fun q=>gz G (a3 ⟨o,ym,hw q⟩)⟩
   . obtain⟨b',t,N,B,_⟩:=rest m o hh PB;rw[B]at e;cases e;exact⟨m,_,by rw[hh];simp,N,fun q=>⟨o,hh,hw q⟩⟩
theorem CN{M:Nat}{m:Nat}{x:H lf}{iu k:Nat}:∀(l:af),(∀y∈l,M+y.1<fP)->
  (gY M l m x iu).get k=match l.find? (fun y=>Nat.beq (M+y.1) k&&eo iu y.1&& !eo m y.1)with|some y=>some y.2|none=>x.get k
 | [],_=>rfl
 |(i,o)::l,ht=>by
  have ih:=CN (k:=k) (m:=m) (x:=x) (iu:=iu) l fun y hy=>ht y (by simp[hy]);simp only[gY];by_cases hb:(eo iu i&& !eo m i)=true
  . rw[aH hb,H.eY _ _ _ (ht (i,o) (by simp))];by_cases q:k=M+i
    . subst q;rw[aH rfl,List.find?_cons_of_pos (by simp only[cO,Bool.true_and];exact hb)]
    . rw[aI q,ih,List.find?_cons_of_neg];have:Nat.beq (M+i) k=false:=by
       cases hh:Nat.beq (M+i) k with
       |false=>rfl
       |true=>exact absurd (aD hh).symm q
      simp[this]
  . rw[aI hb,ih,List.find?_cons_of_neg];intro q;simp only[Bool.and_assoc]at q;rw[aC]at q;exact hb q.2
section
variable{M m:Nat}{x:H lf}
theorem jP{iu i:Nat}{b:lf}{l:af}(ht:∀y∈l,M+y.1<fP)(one:∀(j:Nat) (b b':lf),(j,b)∈l->(j,b')∈l->b=b')(hi:(i,b)∈l)
  (ha:eo iu i=true) (W:eo m i=false):(gY M l m x iu).get (M+i)=some b:=by
 rw[CN l ht];cases hf:l.find? (fun y=>Nat.beq (M+y.1) (M+i)&&eo iu y.1&& !eo m y.1)with
 |none=>
  have:=List.find?_eq_none.1 hf (i,b) hi;simp[cO,ha,W]at this
 |some y=>
  have N:=List.mem_of_find?_eq_some hf;have B:=List.find?_some hf;simp only[aC]at B;have h3:=aD B.1.1;have h4:y.1=i:=by omega
  obtain⟨y1,y2⟩:=y;simp only at h4;subst h4;simp only[one y1 y2 b N hi]
theorem qK{iu k:Nat}{l:af}(ht:∀y∈l,M+y.1<fP)(h:∀i b,(i,b)∈l->eo iu i=true->eo m i=false->k≠M+i):(gY M l m x iu).get k=x.get k:=by
 rw[CN l ht];cases hf:l.find? (fun y=>Nat.beq (M+y.1) k&&eo iu y.1&& !eo m y.1)with
 |none=>rfl
 |some y=>
  have N:=List.mem_of_find?_eq_some hf;have B:=List.find?_some hf;simp only[aC,Bool.not_eq_true']at B;exact absurd (aD B.1.1).symm (h y.1 y.2 N B.1.2 B.2)
theorem ju{iu:Nat}{l:af}(ht:∀y∈l,M+y.1<fP)(one:∀(j:Nat) (b b':lf),(j,b)∈l->(j,b')∈l->b=b')(k:Nat):
  (∃i b,(i,b)∈l/\eo iu i=true/\eo m i=false/\k=M+i/\(gY M l m x iu).get k=some b) \/
  ((∀i b,(i,b)∈l->eo iu i=true->eo m i=false->k≠M+i)/\(gY M l m x iu).get k=x.get k):=by
 by_cases h:∃i b,(i,b)∈l/\eo iu i=true/\eo m i=false/\k=M+i
 . obtain⟨i,b,N,B,h3,rfl⟩:=h;exact .inl ⟨i,b,N,B,h3,rfl,jP ht one N B h3⟩
 . have h':∀i b,(i,b)∈l->eo iu i=true->eo m i=false->k≠M+i:=fun i b N B h3 q=>h ⟨i,b,N,B,h3,q⟩;exact .inr ⟨h',qK ht h'⟩
end
def N8(E:Env):fl->Exit->Prop
 | .normal,.normal=>True
 | .exit i,.exit j=>i=j
 | .ret,.ret=>True
 | .panic v,.panic chain=>∃v',dK E v v'/\chain=[{ v:=v',recovered:=false }]
 |_,_=>False
section
variable{P:Program}{cf:fT}{ops:Array Oper}{M h1 lJ:Nat}{h0:H lf}{kA:H V}{val:Nat->V}{dH:List xQ}{d:Dr}{E0:Env}{w0:World}{xV:List Deferred}
structure Inv(ops:Array Oper)(M h1 lJ:Nat)(h0:H lf)(kA:H V)(val:Nat->V)(dH:List xQ)(c7:af)(E0:Env)(w0:World)(xV:List Deferred)
  (fr:Nat->Bool) (ms hL:Nat) (E:Env) (a:Act) (w:World):Prop where
 bits:∀i,eo ms i=fr i
 UP:∀i,fr i=true->i<lJ
 closed:∀(j:Nat) (o:Oper),fr j=true->ops[j]? =some o->∀e∈o.after,Region.binds .any e=true->fr e.on=true
 Gr:∀(c:Nat) (e:xQ),dH[c]? =some e->(fr e.1=true↔c<hL)
 Jle:hL<=dH.length
 f1:∀(j:Nat) (o:Oper) (t:Nat),fr j=true->ops[j]? =some o->o.dst=some t->∃v',a.tmps[t]? =some v'/\dK E (val j) v'
 f2:∀(t:Nat) (v:V),kA.get t=some v->(∀(j:Nat) (o:Oper),fr j=true->ops[j]? =some o->o.dst≠some t)->∃v',a.tmps[t]? =some v'/\dK E v v'
 qG:iG E0 h0 w0 E (gY M c7 (eF h0 (M+ops.size) dH hL).1 (eF h0 (M+ops.size) dH hL).2.1 ms) w
 old:∀k,k<M->E.ι k=E0.ι k
 oz:∀k p,E.ι k=some p->k<M\/(∃i b,(i,b)∈c7/\fr i=true/\k=M+i)\/(M+ops.size<=k/\k<(eF h0 (M+ops.size) dH hL).2.2)
 free:∀i,i<ops.size->eo (eF h0 (M+ops.size) dH hL).1 i=false->(eF h0 (M+ops.size) dH hL).2.1.get (M+i)=none
 y5:M+ops.size<=(eF h0 (M+ops.size) dH hL).2.2
 size:a.tmps.size=h1
 gG:a.defers=xV
theorem Inv.iu(hr:mU ops h1){c7:af}{fr:Nat->Bool}{ms hL:Nat}{E:Env}{a:Act}{w:World}(hc:Inv ops M h1 lJ h0 kA val dH c7 E0 w0 xV fr ms hL E a w){j k:Nat}(hj:fr j=true)(h:eo (mq ops j) k=true):fr k=true:=
 CJ hr.yZ (fr:=fun i=>fr i=true) (fun j o hs ho e he hb=>hc.closed j o hs ho e he hb) j k hj h
theorem wC(hr:mU ops h1){fr:Nat->Bool}(hS:∀(j:Nat) (o:Oper),fr j=true->ops[j]? =some o->∀e∈o.after,Region.binds .any e=true->fr e.on=true){j k:Nat}{o:Oper}(ho:ops[j]? =some o)
  (hd:∀e∈o.after,Region.binds .any e=true->fr e.on=true) (h:eo (mq ops j) k=true):fr k=true:=by
 obtain⟨e,N,B,h3⟩:=(yY hr.yZ ho).1 h;rcases h3 with rfl|h3
 . exact hd e N B
 . exact CJ hr.yZ (fr:=fun i=>fr i=true) hS e.on k (hd e N B) h3
theorem Inv.ad5(hr:mU ops h1)(f:oV P cf ops M h0 kA val dH lJ d){fr:Nat->Bool}{ms hL:Nat}{E:Env}{a:Act}{w:World}
  (hc:Inv ops M h1 lJ h0 kA val dH d.c7 E0 w0 xV fr ms hL E a w) {i:Nat} (h:eo (eF h0 (M+ops.size) dH hL).1 i=true):fr i=true:=by
 cases hL with
 |zero=>simp[eF,kC]at h
 |succ c=>
  have I:c<dH.length:=by have:=hc.Jle;omega
  have he:dH[c]? =some dH[c]:=ay I;simp only[eF,he]at h;obtain⟨_,o,_,_,h3⟩:=f.vl c _ he;rw[h3]at h;exact hc.iu hr ((hc.Gr c _ he).2 K) h
theorem Inv.use(hr:mU ops h1){c7:af}{fr:Nat->Bool}{ms hL:Nat}{E:Env}{a:Act}{w:World}(hc:Inv ops M h1 lJ h0 kA val dH c7 E0 w0 xV fr ms hL E a w)
  {j:Nat} {o:Oper} (ho:ops[j]? =some o) (hj:fr j=false) (hd:∀e∈o.after,Region.binds .any e=true->fr e.on=true) {S:H V} (hf:Ak ops kA val j S) {t:Nat} (ht:t∈uY ops o) {v:V} (hv:S.get t=some v):
  ∃v',a.tmps[t]? =some v'/\dK E v v':=by
 by_cases h:∃i q,i<j/\ops[i]? =some q/\q.dst=some t
 . obtain⟨i,q,N,B,h3⟩:=h;have hu:=hr.use i j q o t B ho K h3 ht;rw[aH N]at hu;have hi:=wC hr hc.closed ho hd hu;have:=hf.new i q t N B h3;rw[this]at hv;cases hv;exact hc.f1 i q t hi B h3
 . have oT:=hf.old t fun i q hi hq hd=>h ⟨i,q,hi,hq,hd⟩;rw[oT]at hv;refine hc.f2 t v hv fun i q hi hq Ug=>?_;have fU:i≠j:=by intro e;subst e;rw[hj]at hi;cases hi
   have hu:=hr.use i j q o t hq ho fU Ug ht;split at hu
   . rename_i fI;exact h ⟨i,q,fI,hq,Ug⟩
   . have:=hc.iu hr hi hu;rw[hj]at this;cases this
theorem Inv.uW(hr:mU ops h1){c7:af}{fr:Nat->Bool}{ms hL:Nat}{E:Env}{a:Act}{w:World}(hc:Inv ops M h1 lJ h0 kA val dH c7 E0 w0 xV fr ms hL E a w)
  {j:Nat} {o:Oper} (ho:ops[j]? =some o) (hj:fr j=false) (hd:∀e∈o.after,Region.binds .any e=true->fr e.on=true) {S:H V} (hf:Ak ops kA val j S):∀x∈o.op.operands,mN E S a.eval x:=by
 intro x G v hv;cases x with
 |tmp t=>
  have ht:t∈uY ops o:=by
   unfold uY;refine cL _ (List.mem_filterMap.2 ⟨.tmp t,by simpa using G,rfl⟩)
  obtain⟨v',N,B⟩:=hc.use hr ho hj hd hf ht hv;simp only[Act.eval,cg,N];exact B
 |const c=>exact Ac hv
 |func f=>simp only[iY,an]at hv;subst hv;exact⟨_,[],[],rfl,rfl,rfl,rfl⟩
 |global g=>exact HT hc.qG.good.jh hv
theorem Inv.wanted(hr:mU ops h1){c7:af}{fr:Nat->Bool}{ms hL:Nat}{E:Env}{a:Act}{w:World}(hc:Inv ops M h1 lJ h0 kA val dH c7 E0 w0 xV fr ms hL E a w)
  {j:Nat} {o:Oper} (ho:ops[j]? =some o) (hj:fr j=false) (hd:∀e∈o.after,Region.binds .any e=true->fr e.on=true) {S:H V} (hf:Ak ops kA val j S) {b:Bool} (e:iJ ops o S=some b):
  Region.wanted o (yielded ops a.tmps)=b:=by
 refine xO (E:=E) (fun g J9 q t hg hq hdq v hv=>?_) e;have ht:t∈uY ops o:=by
  unfold uY;refine b9 _ ?_;simp only[hg,hq,hdq];simp
 exact hc.use hr ho hj hd hf ht hv
theorem Inv.frame(hr:mU ops h1){c7:af}{fr:Nat->Bool}{ms hL:Nat}{E E':Env}{a:Act}{w:World}(hc:Inv ops M h1 lJ h0 kA val dH c7 E0 w0 xV fr ms hL E a w)
  {j:Nat} {o:Oper} (ho:ops[j]? =some o) (ku:E.le E') {v':Value} (hv:dK E' (val j) v'):
  (∀(k:Nat) (q:Oper) (t:Nat),(fr k||decide (k=j))=true->ops[k]? =some q->q.dst=some t->∃v2,(a.put o.dst v').tmps[t]? =some v2/\dK E' (val k) v2)/\
  (∀(t:Nat) (v:V),kA.get t=some v->(∀(k:Nat) (q:Oper),(fr k||decide (k=j))=true->ops[k]? =some q->q.dst≠some t)->∃v2,(a.put o.dst v').tmps[t]? =some v2/\dK E' v v2):=by
 have uB:nD a.tmps.size o.dst:=by rw[hc.size];exact hr.dst j o ho
 refine⟨fun k q t hk hq ht=>?_,fun t v ZI ht=>?_⟩
 . by_cases c:k=j
   . subst c;rw[ho]at hq;cases hq;have:=uB t ht;exact⟨v',by simp[Act.put,ht,this],hv⟩
   . have uH:fr k=true:=by simpa[c]using hk
     obtain⟨v2,N,B⟩:=hc.f1 k q t uH hq ht;refine⟨v2,?_,js ku _ _ B⟩;cases hd:o.dst with
     |none=>exact N
     |some u=>
      have fU:u≠t:=by intro e;subst e;exact c (hr.one k j q o u hq ho ht hd)
      simp[Act.put,fU,N]
 . obtain⟨v2,N,B⟩:=hc.f2 t v ZI fun k q hk hq=>ht k q (by simp[hk]) hq;refine⟨v2,?_,js ku _ _ B⟩;cases hd:o.dst with
   |none=>exact N
   |some u=>
    have fU:u≠t:=by intro e;subst e;exact ht j o (by simp) ho hd
    simp[Act.put,fU,N]
end
end Go.Eng
