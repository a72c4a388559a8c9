/- Lemmas on the chunk store. No conditions. -/
import Derived.Shelf.Sort.Plain
import Derived.Test.YtfihojpgobmmdaaGreatDoorJointW09
import Derived.Test.YtfihojpgobmmdaaGreatDoorJointW10
import Derived.Shelf.SlSortCmp.Whole1
import Derived.Deep.QuietTactic
import Derived.Shelf.SlicesG.Clone
set_option linter.unusedVariables false
set_option linter.unusedSimpArgs false
set_option linter.unusedSectionVars false
set_option maxRecDepth 20000
namespace Go.Proofs.YtfihojpgobmmdaaGreatDoor
open Go Go.Eng Go.Shelf Go.Sort Go.RowKit
def Wg:Go.Shelf.Ren:=⟨fun|190=>87|125=>102|258=>114|128=>132|129=>133|302=>134|303=>135|304=>136|305=>137|306=>138|307=>139|308=>140|309=>141|310=>142|333=>152|329=>148|330=>149|334=>153|335=>154|336=>155|344=>158|n=>n,fun|31=>36|9=>9|3=>3|46=>144|0=>0|51=>120|53=>135|4=>4|183=>173|182=>172|131=>177|5=>5|218=>192|222=>196|228=>200|229=>201|n=>n,fun n=>n⟩
theorem SG:Lays.n190 ak Wg:={
 mixed:=mo
 f125:=Tryz.func102.trans (aL some U)
 f128:=Tryz.func132.trans (aL some U)
 f129:=Tryz.func133.trans (aL some U)
 f190:=Tryz.func87.trans (aL some U)
 f258:=Tryz.func114.trans (aL some U)
 f302:=Tryz.func134.trans (aL some U)
 f303:=Tryz.func135.trans (aL some U)
 f304:=Tryz.func136.trans (aL some U)
 f305:=Tryz.func137.trans (aL some U)
 f306:=Tryz.func138.trans (aL some U)
 f307:=Tryz.func139.trans (aL some U)
 f308:=Tryz.func140.trans (aL some U)
 f309:=Tryz.func141.trans (aL some U)
 f310:=Tryz.func142.trans (aL some U)
 f329:=Tryz.func148.trans (aL some U)
 f330:=Tryz.func149.trans (aL some U)
 f333:=Tryz.func152.trans (aL some U)
 f334:=Tryz.func153.trans (aL some U)
 f335:=Tryz.func154.trans (aL some U)
 f336:=Tryz.func155.trans (aL some U)
 f344:=Tryz.func158.trans (aL some U)
 t0:=Tryz.underlying0
 a0:=Tryz.isAgg0
 z0:=Tryz.sizeOf0
 v0:=Tryz.zeroValue0
 t3:=Tryz.underlying3
 a3:=Tryz.isAgg3
 z3:=Tryz.sizeOf3
 v3:=Tryz.zeroValue3
 t4:=Tryz.underlying4
 a4:=Tryz.isAgg4
 z4:=Tryz.sizeOf4
 v4:=Tryz.zeroValue4
 t5:=Tryz.underlying5
 a5:=Tryz.isAgg5
 z5:=Tryz.sizeOf5
 v5:=Tryz.zeroValue5
 t9:=Tryz.underlying9
 a9:=Tryz.isAgg9
 z9:=Tryz.sizeOf9
 v9:=Tryz.zeroValue9
 t31:=Tryz.underlying36
 a31:=Tryz.isAgg36
 z31:=Tryz.sizeOf36
 v31:=Tryz.zeroValue36
 t46:=Tryz.underlying144
 a46:=Tryz.isAgg144
 z46:=Tryz.sizeOf144
 v46:=Tryz.zeroValue144
 t51:=Tryz.underlying120
 a51:=Tryz.isAgg120
 z51:=Tryz.sizeOf120
 v51:=Tryz.zeroValue120
 t53:=Tryz.underlying135
 a53:=Tryz.isAgg135
 z53:=Tryz.sizeOf135
 v53:=Tryz.zeroValue135
 t131:=Tryz.underlying177
 a131:=Tryz.isAgg177
 z131:=Tryz.sizeOf177
 v131:=Tryz.zeroValue177
 t182:=Tryz.underlying172
 a182:=Tryz.isAgg172
 z182:=Tryz.sizeOf172
 v182:=Tryz.zeroValue172
 t183:=Tryz.underlying173
 a183:=Tryz.isAgg173
 z183:=Tryz.sizeOf173
 v183:=Tryz.zeroValue173
 t218:=Tryz.underlying192
 a218:=Tryz.isAgg192
 z218:=Tryz.sizeOf192
 v218:=Tryz.zeroValue192
 t222:=Tryz.underlying196
 a222:=Tryz.isAgg196
 z222:=Tryz.sizeOf196
 v222:=Tryz.zeroValue196
 t228:=Tryz.underlying200
 a228:=Tryz.isAgg200
 z228:=Tryz.sizeOf200
 v228:=Tryz.zeroValue200
 t229:=Tryz.underlying201
 a229:=Tryz.isAgg201
 z229:=Tryz.sizeOf201
 v229:=Tryz.zeroValue201
}
theorem Wh:SF ak 87:=fun Cl off A ss w hH anf mA=>Any.slices_Sort_string SG Cl off A ss w hH anf mA
def agA:Go.Shelf.Ren:=⟨fun|6=>80|15=>102|14=>101|28=>132|29=>133|20=>124|21=>125|22=>126|23=>127|24=>128|25=>129|26=>130|27=>131|46=>147|47=>148|48=>149|49=>150|50=>151|57=>157|n=>n,fun|22=>25|24=>26|25=>99|3=>3|39=>144|0=>0|53=>120|55=>135|4=>4|46=>173|45=>172|50=>177|5=>5|9=>9|66=>192|70=>196|76=>200|77=>201|n=>n,fun n=>n⟩
theorem abV:SlLaysF.n6 ak agA:={
 mixed:=mo
 f6:=⟨"slices.SortFunc[[]gouache/api.Digest,gouache/api.Digest]",dP,Tryz.func80.trans (aL some U)⟩
 f14:=⟨"slices.pdqsortCmpFunc[gouache/api.Digest]",dP,Tryz.func101.trans (aL some U)⟩
 f15:=Tryz.func102.trans (aL some U)
 f20:=⟨"slices.insertionSortCmpFunc[gouache/api.Digest]",dP,Tryz.func124.trans (aL some U)⟩
 f21:=⟨"slices.heapSortCmpFunc[gouache/api.Digest]",dP,Tryz.func125.trans (aL some U)⟩
 f22:=⟨"slices.breakPatternsCmpFunc[gouache/api.Digest]",dP,Tryz.func126.trans (aL some U)⟩
 f23:=⟨"slices.choosePivotCmpFunc[gouache/api.Digest]",dP,Tryz.func127.trans (aL some U)⟩
 f24:=⟨"slices.reverseRangeCmpFunc[gouache/api.Digest]",dP,Tryz.func128.trans (aL some U)⟩
 f25:=⟨"slices.partialInsertionSortCmpFunc[gouache/api.Digest]",dP,Tryz.func129.trans (aL some U)⟩
 f26:=⟨"slices.partitionEqualCmpFunc[gouache/api.Digest]",dP,Tryz.func130.trans (aL some U)⟩
 f27:=⟨"slices.partitionCmpFunc[gouache/api.Digest]",dP,Tryz.func131.trans (aL some U)⟩
 f28:=Tryz.func132.trans (aL some U)
 f29:=Tryz.func133.trans (aL some U)
 f46:=⟨"slices.siftDownCmpFunc[gouache/api.Digest]",dP,Tryz.func147.trans (aL some U)⟩
 f47:=Tryz.func148.trans (aL some U)
 f48:=Tryz.func149.trans (aL some U)
 f49:=⟨"slices.medianAdjacentCmpFunc[gouache/api.Digest]",dP,Tryz.func150.trans (aL some U)⟩
 f50:=⟨"slices.medianCmpFunc[gouache/api.Digest]",dP,Tryz.func151.trans (aL some U)⟩
 f57:=⟨"slices.order2CmpFunc[gouache/api.Digest]",dP,Tryz.func157.trans (aL some U)⟩
 t0:=Tryz.underlying0
 a3:=Tryz.isAgg3
 z4:=Tryz.sizeOf4
 v5:=Tryz.zeroValue5
 t22:=Tryz.underlying25
 z24:=Tryz.sizeOf26
 t39:=Tryz.underlying144
 t45:=Tryz.underlying172
 t46:=Tryz.underlying173
 t50:=Tryz.underlying177
 t53:=Tryz.underlying120
 t55:=Tryz.underlying135
 t66:=Tryz.underlying192
 t70:=Tryz.underlying196
 t76:=Tryz.underlying200
 t77:=Tryz.underlying201
 a0:=Tryz.isAgg0
 z0:=Tryz.sizeOf0
 v0:=Tryz.zeroValue0
 t3:=Tryz.underlying3
 z3:=Tryz.sizeOf3
 v3:=Tryz.zeroValue3
 t4:=Tryz.underlying4
 a4:=Tryz.isAgg4
 v4:=Tryz.zeroValue4
 t5:=Tryz.underlying5
 a5:=Tryz.isAgg5
 z5:=Tryz.sizeOf5
 t9:=Tryz.underlying9
 a9:=Tryz.isAgg9
 z9:=Tryz.sizeOf9
 v9:=Tryz.zeroValue9
 a22:=Tryz.isAgg25
 z22:=Tryz.sizeOf25
 v22:=Tryz.zeroValue25
 a24:=Tryz.isAgg26
 t25:=Tryz.underlying99
 a25:=Tryz.isAgg99
 z25:=Tryz.sizeOf99
 v25:=Tryz.zeroValue99
 a39:=Tryz.isAgg144
 z39:=Tryz.sizeOf144
 v39:=Tryz.zeroValue144
 a45:=Tryz.isAgg172
 z45:=Tryz.sizeOf172
 v45:=Tryz.zeroValue172
 a46:=Tryz.isAgg173
 z46:=Tryz.sizeOf173
 v46:=Tryz.zeroValue173
 a50:=Tryz.isAgg177
 z50:=Tryz.sizeOf177
 v50:=Tryz.zeroValue177
 a53:=Tryz.isAgg120
 z53:=Tryz.sizeOf120
 v53:=Tryz.zeroValue120
 a55:=Tryz.isAgg135
 z55:=Tryz.sizeOf135
 v55:=Tryz.zeroValue135
 a66:=Tryz.isAgg192
 z66:=Tryz.sizeOf192
 v66:=Tryz.zeroValue192
 a70:=Tryz.isAgg196
 z70:=Tryz.sizeOf196
 v70:=Tryz.zeroValue196
 a76:=Tryz.isAgg200
 z76:=Tryz.sizeOf200
 v76:=Tryz.zeroValue200
 a77:=Tryz.isAgg201
 z77:=Tryz.sizeOf201
 v77:=Tryz.zeroValue201
}
theorem Zr(a1 a2:Value)(i:Int)(hm:World):(Instr.field 95 (.agg #[a1,a2,.int .i64 i]) 2).run ak hm= .ok (.int .i64 i) hm:=by
 have u95:=Tryz.underlying95;have w3:=Tryz.isAgg3;simp[Instr.field,dz u95,asAgg];simp[part,w3,Sem.run_bind]
theorem agB(n:Int):IntKind.i64.wrap n=wrap64 n:=IntWalk.i64_left n
set_option maxHeartbeats 1000000 in
theorem Pw(hm:World)(bb so b3 s3 mb:Nat)(sx sy a1 a2 b1 b2:Value)(i j:Int)(X:hm.cell? ⟨bb,so,none⟩=some (.pointer (some ⟨b3,s3,none⟩)))(h2:hm.cell? ⟨b3,s3+2,none⟩=some (.map (some mb)))
  (l1:∀n,(Instr.lookup 79 (.map (some mb)) sx false).run ak (hm.drewN n)= .ok (.agg #[a1,a2,.int .i64 i]) (hm.drewN n)) (l2:∀n,(Instr.lookup 79 (.map (some mb)) sy false).run ak (hm.drewN n)= .ok (.agg #[b1,b2,.int .i64 j]) (hm.drewN n)):
  Calls ak 56 #[sx,sy,.pointer (some ⟨bb,so,none⟩)] hm fun e w'=>e= .returned (.int .i64 (IntKind.i64.wrap (i-j)))/\∃q,w'=hm.drewN q:=by
 have f1:=Zr a1 a2 i;have f2:=Zr b1 b2 j
 go_enter Tryz.func56,Tryz.ntmps56
 go_wp2
 go_quiet (fail)
 go_wp2
 go_ret
 refine⟨?_,nq,rfl⟩;show Ending.returned (.int .i64 (wrap64 (i-j)))=_;rw[agB]
theorem HA(x:B)(d:lf):je (.str x) d=true↔d= .str x:=by
 cases d<;>simp[je,gr];exact eq_comm
theorem HB{x:B}{d:lf}(h:d≠ .str x):je (.str x) d=false:=by
 cases q:je (.str x) d with
 |false=>rfl
 |true=>exact absurd ((HA x d).1 q) h
open Classical in
theorem gy(x:B)(e:lf×lf)(C:ae):dj (.str x) (e::C)=if e.1= .str x then some e.2 else dj (.str x) C:=by
 simp only[dj];by_cases h:e.1= .str x
 . rw[aF h,(HA x e.1).2 h]
 . rw[aJ h,HB h]
open Classical in
theorem wZ(x:B)(v:lf)(e:lf×lf)(C:ae):iK (.str x) v (e::C)=if e.1= .str x then(.str x,v)::C else e::iK (.str x) v C:=by
 simp only[iK];by_cases h:e.1= .str x
 . rw[aF h,(HA x e.1).2 h]
 . rw[aJ h,HB h]
open Classical in
theorem w6(x:B)(e:lf×lf)(C:ae):mh (.str x) (e::C)=if e.1= .str x then C else e::mh (.str x) C:=by
 simp only[mh];by_cases h:e.1= .str x
 . rw[aF h,(HA x e.1).2 h]
 . rw[aJ h,HB h]
theorem DR(x y:B)(v:lf):∀C:ae,dj (.str x) (iK (.str y) v C)=if x=y then some v else dj (.str x) C
 | []=>by
   show dj (.str x) [(.str y,v)]=_;rw[gy];by_cases h:x=y
   . rw[aF h,aF (by rw[h])]
   . rw[aJ h,aJ (by intro q;simp only[lf.str.injEq]at q;exact h q.symm)]
 |e::C=>by
  rw[wZ];by_cases he:e.1= .str y
  . rw[aF he,gy,gy];by_cases h:x=y
    . rw[aF h,aF (by rw[h])]
    . rw[aJ h,aJ (by intro q;simp only[lf.str.injEq]at q;exact h q.symm),aJ (by rw[he];intro q;simp only[lf.str.injEq]at q;exact h q.symm)]
  . rw[aJ he,gy,gy,DR x y v C];by_cases h:x=y
    . subst h;rw[aJ he,aF rfl,aF rfl]
    . rw[aJ h,aJ h]
theorem vY{y:B}(v:lf):∀{C:ae},dj (.str y) C=none->iK (.str y) v C=C++[(.str y,v)]
 | [],_=>rfl
 |e::C,h=>by
  rw[gy]at h;split at h
  . cases h
  . rename_i he;rw[wZ,aJ he,vY v h];rfl
def Vb(C:ae):Prop:=∀x,dj (.str x) C=none\/Cn C x
def jF(C:ae)(x:B):Int:=match dj (.str x) C with
 |some (.agg [_,_,.int _ k])=>k
 |_=>0
theorem SH{b:Nat}{gi:Array MapEntry}{eD:Nat}{φ:Nat->Option (Array Value)}{C:ae}(hr:ko φ none C gi.toList eD)(td:Vb C)(x:B):
  ∃a1 a2,∀hm:World,hm.heap[b]? =some (.map gi eD)->(Instr.lookup 79 (.map (some b)) (Value.string ⟨x.toArray⟩) false).run ak hm= .ok (.agg #[a1,a2,.int .i64 (jF C x)]) hm:=by
 have hu:Tryz.prog.underlying 79=some (.map 26 95):=by kernel_rfl
 have hk:Tryz.prog.underlying 26=some .string:=by kernel_rfl
 have Vy:=hr.look (kd:=.string) (k:=.str x) (k':=Value.string ⟨x.toArray⟩) rfl rfl rfl;have IF:∀hm:World,(Instr.checkKey gi.isEmpty 10000 26 (Value.string ⟨x.toArray⟩)).run ak hm= .ok () hm:=fun hm=>xw (E:=⟨fun _=>none,fun _=>0,φ⟩) 9999 hk (k:=.str x) rfl rfl;rcases td x with K|⟨d,O,k,K⟩
 . rw[K]at Vy;have hz:zeroOf ak 95=some (.agg [.str [],.dx none 0 0 0,.int .i64 0]):=by kernel_rfl
   have OF:∀hm:World,(zeroValue 95).run ak hm= .ok (.agg #[.string ⟨#[]⟩,.slice none 0 0,.int .i64 0]) hm:=by
    intro hm;exact Tryz.zeroValue95 hm
   refine⟨.string ⟨#[]⟩,.slice none 0 0,fun hm hb=>?_⟩;have uM:=fq (P:=ak) hb (by intro _ _ _ q;cases q);have hn:jF C x=0:=by unfold jF;rw[K]
   rw[hn];simp only[Instr.lookup,Sem.run_bind,dz hu,Result.andThen_ok,Sem.run_pure,uM,IF,gH hk Vy,OF];rfl
 . rw[K]at Vy;obtain⟨j,v',q1,q2⟩:=Vy;have hn:jF C x=k:=by unfold jF;rw[K];rfl
   obtain⟨vs,hv,rfl⟩:=q2;obtain⟨y1,ys1,_,r1,hv,rfl⟩:=hv;obtain⟨y2,ys2,_,r2,hv,rfl⟩:=hv;obtain⟨y3,ys3,_,r3,hv,rfl⟩:=hv;have hv:ys3=[]:=hv;subst hv;have r3:y3= .int .i64 k:=r3;subst r3;refine⟨y1,y2,fun hm hb=>?_⟩;have uM:=fq (P:=ak) hb (by intro _ _ _ q;cases q);rw[hn];simp only[Instr.lookup,Sem.run_bind,dz hu,Result.andThen_ok,Sem.run_pure,uM,IF,gH hk q1];rfl
def cfN(C:ae)(x y:B):Int:=IntKind.i64.wrap (jF C x-jF C y)
theorem HC{C:ae}(hn:∀x,0<=jF C x/\jF C x<1000000000)(x y:B):ltOf (cfN C) x y=decide (jF C x<jF C y):=by
 unfold ltOf cfN;have X:=hn x;have h2:=hn y;rw[eV L L];exact decide_eq_decide.2 L
theorem Wi{C:ae}(hn:∀x,0<=jF C x/\jF C x<1000000000):SWO (ltOf (cfN C)) where
 irrefl x:=by rw[HC hn];simp
 trans x y z X h2:=by rw[HC hn]at *;simp at *;omega
 ntrans x y z X h2:=by rw[HC hn]at *;simp at *;omega
theorem DS{α:Type}{f:α->Int}:∀{a b:List α},List.Perm a b->a.Pairwise (fun x y=>¬f y<f x)->b.Pairwise (fun x y=>f x<f y)->a=b
 | [],b,hp,_,_=>(hp.symm.eq_nil).symm
 |x::a,[],hp,_,_=>absurd hp.length_eq (by simp)
 |x::a,y::b,hp,X,h2=>by
  have M:x∈y::b:=hp.mem_iff.1 (by simp);have hy:y∈x::a:=hp.mem_iff.2 (by simp);have e:x=y:=by
   rcases aD.1 M with h|h
   . exact h
   . have q1:=(List.pairwise_cons.1 h2).1 x h;rcases aD.1 hy with h'|h'
     . exact h'.symm
     . exact absurd q1 ((List.pairwise_cons.1 X).1 y h')
  subst e;rw[DS (List.perm_cons x |>.1 hp) (List.pairwise_cons.1 X).2 (List.pairwise_cons.1 h2).2]
theorem yu{w:World}{b o m:Nat}{dk:Array (B)}{os:Array Obj}{k:Nat}(hk:k≠b){ob:Obj}(h:w.heap[k]? =some ob):(sortWorld encStr w b o m dk os).heap[k]? =some ob:=by
 have fH:k<w.heap.size:=(aS.1 h).1;show((putRow encStr (Sort.ahead w m) b o dk).heap++os)[k]? =_;rw[bT (by rw[size_putRow];exact fH)];show(w.heap.modify b (Sort.onCells _))[k]? =_;rw[cr,aJ (fun z=>hk z.symm)];exact h
theorem NB{hm:World}{b o:Nat}{c:Array Value}{el:TypeId}{fz:Nat×Nat}{v:Value}(h:hm.heap[b]? =some (.cells c el fz))(J:c[o]? =some v):hm.cell? ⟨b,o,none⟩=some v:=by
 unfold World.cell?;simp only[h];exact J
theorem abW{h:H rs}{n m bx st c cp:Nat}{Q:ag}{C:ae}(ks zs:List (B))(W:h.get m=some (.deep (strs ks)))(zw:m<fW)(hbx:h.get bx=some (.cells [.ptr (some (st,0))]))(wF:h.get st=some (.cells Q))(pT:Q[2]? =some (.map (some c)))(U1:h.get c=some (.dy none C))
  (td:Vb C) (hn:∀x,0<=jF C x/\jF C x<1000000000) (h0:0<ks.length) (Q5:ks.length<1000000) (hp:List.Perm zs ks) (hz:zs.Pairwise fun a b=>jF C a<jF C b) (n1:m≠bx) (n2:m≠st) (n3:m≠c):
  c5 ak 80 [.dx (some (m,0)) ks.length cp 1,.fn (.func 56) [] [.ptr (some (bx,0))]] h n (.ew []) (h.set m (some (.deep (strs zs)))) n:=by
 refine DQ (ss:=ks) (zs:=zs) hp.length_eq W zw h0 rfl Q5 fun E w b o A JA g O e1 hH hb=>?_;obtain⟨y,ys,⟨f',a',c',rf,ra,rc,rfl⟩,O,rfl⟩:=O;have O:ys=[]:=O;subst O;have rf:f'= .func 56:=rf;subst rf;have ra:a'=[]:=ra;subst ra;obtain⟨z,zs',⟨bb,so,LZ,rfl⟩,rc,rfl⟩:=rc;have rc:zs'=[]:=rc;subst rc;have uL:eG h m:=⟨_,W,rfl⟩;have apart:∀j x t,m≠j->h.get j≠none->E.ι j=some (x,t)->x≠b:=fun j x t fS hj he q=>by
  subst q;exact g.inj m j x o t fS uL hj e1 he
 obtain⟨bb',so',q1,cb,elb,fzb,zb,_,_,Iu⟩:=g.rel bx _ hbx;rw[LZ]at q1;simp only[an,aB]at q1;obtain⟨rfl,rfl⟩:=q1;obtain⟨vb,hb3,b3,s3,Zs,rfl⟩:=Iu 0 _ rfl;obtain⟨b3',s3',q1,c3,el3,fz3,fQ,_,_,gY⟩:=g.rel st _ wF;rw[Zs]at q1;simp only[an,aB]at q1;obtain⟨rfl,rfl⟩:=q1;obtain⟨vm,uV,mb,hci,rfl⟩:=gY 2 _ pT;obtain⟨mb',gi,eD,q1,hmb,hmr⟩:=vx g U1;rw[hci]at q1;simp only[an,aB,and_true]at q1;subst q1;have nb:bb≠b:=apart bx _ _ n1 (by rw[hbx];simp) LZ;have nst:b3≠b:=apart st _ _ n2 (by rw[wF];simp) Zs;have nmb:mb≠b:=apart c _ _ n3 (by rw[U1];simp) hci;have anh:CmpLays1 ak 56 #[.pointer (some ⟨bb,so+0,none⟩)] encStr (cfN C) b o ks.toArray.size w:=by
  intro mm os dk hdk x y;obtain⟨a1,a2,l1⟩:=SH hmr td x;obtain⟨b1,b2,l2⟩:=SH hmr td y;have hW:=yu (m:=mm) (dk:=dk) (os:=os) (o:=o) nmb hmb;have X:=NB (yu (m:=mm) (dk:=dk) (os:=os) (o:=o) nb zb) hb3;have h2:=NB (yu (m:=mm) (dk:=dk) (os:=os) (o:=o) nst fQ) uV;refine(Pw _ bb (so+0) b3 (s3+0) mb (encStr x) (encStr y) a1 a2 b1 b2 (jF C x) (jF C y) X (by simpa using h2) (fun n=>l1 _ hW) (fun n=>l2 _ hW)).mono fun e w' ⟨he,q,hq⟩=>⟨he,q,#[],?_⟩;rw[hq,grow_empty]
 have eg:∀args w,(callFunc 56 args).run ak w= .ok (.enter 56 args) w:=enters_of Tryz.func56 U rfl;have hS:=Any.slices_SortFunc abV encStr (fun _=>rfl) (cfN C) (Wi hn) 56 #[.pointer (some ⟨bb,so+0,none⟩)] b o A ks.toArray w eg anh hH hb (by simp;omega);refine hS.mono fun e w' ⟨he,d',nn,os,Qp,ek,hw⟩=>⟨he,nn,os,?_⟩;have hd:d'.toList=zs:=by
  obtain⟨p1,p2,p3⟩:=Qp;have e1:(d'.extract 0 ks.toArray.size).toList=d'.toList:=by rw[<- p1];simp
  have e2:(ks.toArray.extract 0 ks.toArray.size).toList=ks:=by simp
  rw[e1,e2]at p3;refine DS (f:=jF C) (p3.trans hp.symm) ?_ hz;rw[List.pairwise_iff_getElem];intro i j hi hj Qm;have:=ek i j (aX _) Qm (by simp at hj p1 ⊢;omega);rw[HC hn]at this;have:=aK this;rw[getElem!_pos d' j (by simpa using hj),getElem!_pos d' i (by simpa using hi)]at this;simpa using this
 have:d'=zs.toArray:=by rw[<- hd]
 rw[hw,this];rfl
noncomputable abbrev Px:Code:=dO Tryz.f110
noncomputable abbrev Wj:Code:=dw 3 Px
noncomputable abbrev agD:Code:=dS Wj
noncomputable abbrev ani:Code:=dD (dD (dU agD))
abbrev Qr:V:=.ptr (some (3,0))
section
variable(s:B)(a:Nat)(u:Int)(m i:Nat)(b:UInt8)
abbrev HD(f:Bool):ag:=[.str s,.int .i64 (Int.ofNat a),.bool f]
def uS(i:Nat):Int:=IntKind.u64.wrap (Int.ofNat (BitVec.ofInt 64 u|||BitVec.ofInt 64 (IntKind.u64.wrap (IntKind.u64.wrap (IntKind.u8.wrap (Int.ofNat (BitVec.ofInt 8 (Int.ofNat b.toNat)&&&BitVec.ofInt 8 (127:Int)).toNat))*(2:Int)^min (Int.ofNat (7*i)).toNat 64))).toNat)
def Zt:St:=eL [(0,Qr),(3,.int .u64 u),(16,.int .i64 (Int.ofNat m)),(17,.int .i64 (Int.ofNat i))] (hP (HD s a false)) 4
theorem agE(a:Int):dc (mD []) [] 4 Tryz.f110 [] (Px) (cZ [Qr] (hP [.str s,.int .i64 a,.bool true]) 4) [([],[],.ret (.int .i64 0) (K [(3,.cells [.str s,.int .i64 a,.bool true])]) 4)]:=cT.ef
theorem agF:dc (mD []) [] 4 Tryz.f110 [0,3] (eU 3 Px) (cZ [Qr] (hP (HD s a false)) 4) [([],[],eP (eL [(0,.ptr (some (3,0))),(3,.int .u64 0)] (K [(3,.cells [.str s,.int .i64 (Int.ofNat a),.bool false])]) 4))]:=cT.ef
theorem agG:dc (mD []) [(16,.di (.int .i64 (Int.ofNat m))),(17,.di (.int .i64 (Int.ofNat 0)))] 4 Tryz.f110 [0,3,16,17] (dS agD) (eL [(0,Qr),(3,.int .u64 0)] (hP (HD s a false)) 4) [([],[V.int aj (if IntKind.i64.wrap ((Int.ofNat s.length)-Int.ofNat a)<(10:Int)then IntKind.i64.wrap ((Int.ofNat s.length)-Int.ofNat a)else(10:Int))=V.int aj (Int.ofNat m),V.int aj (0:Int)=V.int aj (0:Int)],eP (eL [(0,.ptr (some (3,0))),(3,.int .u64 0),(16,.int .i64 (Int.ofNat m)),(17,.int .i64 0)] (K [(3,.cells [.str s,.int .i64 (Int.ofNat a),.bool false])]) 4))]:=cT.ef
abbrev lM(u:Int)(b:UInt8):Prop:=V.int IntKind.u64 (IntKind.u64.wrap (Int.ofNat (BitVec.ofInt 64 u|||BitVec.ofInt 64 (IntKind.u64.wrap (IntKind.u64.wrap (IntKind.u8.wrap (Int.ofNat (BitVec.ofInt 8 (Int.ofNat b.toNat)&&&BitVec.ofInt 8 (127:Int)).toNat))*(2:Int)^min (7*i) 64))).toNat))=V.int IntKind.u64 (uS u b i)
abbrev lN:Prop:=V.int IntKind.u8 (Int.ofNat (s.getD (a+i) (0:UInt8)).toNat)=V.int IntKind.u8 (Int.ofNat b.toNat)
theorem agH(u:Int)(b:UInt8):dc (mD []) [(18,.split),(29,.di (.int .i64 (Int.ofNat (a+i)))),(30,.di (.int .u8 (Int.ofNat b.toNat))),(36,.di (.int .i64 (Int.ofNat (7*i)))),(38,.di (.int .u64 (uS u b i))),(40,.split),(43,.split),(47,.split),(50,.split),(54,.split),(61,.di (.int .i64 (Int.ofNat (a+(i+1))))),(66,.di (.int .i64 (Int.ofNat (i+1))))] 4 Tryz.f110 [0,3,16,17] (ani) (Zt s a u m i) [([(decide (Int.ofNat i<Int.ofNat m),true),(decide (Int.ofNat b.toNat>=(128:Int)),true)],[lA (Int.ofNat a+Int.ofNat i) (a+i),(0:Int)<=Int.ofNat (a+i)/\(a+i)<s.length,lN s a i b,lA ((7:Int)*Int.ofNat i) (7*i),lM i u b,lA (Int.ofNat i+(1:Int)) (i+1)],eP (eL [(0,.ptr (some (3,0))),(3,.int .u64 (uS u b i)),(16,.int .i64 (Int.ofNat m)),(17,.int .i64 (Int.ofNat (i+1)))] (K [(3,.cells [.str s,.int .i64 (Int.ofNat a),.bool false])]) 4)),([(decide (Int.ofNat i<Int.ofNat m),true),(decide (Int.ofNat b.toNat>=(128:Int)),false),(decide (Int.ofNat i>(0:Int)),true),(Int.ofNat b.toNat==(0:Int),true),(true,true)],[lA (Int.ofNat a+Int.ofNat i) (a+i),(0:Int)<=Int.ofNat (a+i)/\(a+i)<s.length,lN s a i b,lA ((7:Int)*Int.ofNat i) (7*i),lM i u b],.to (.exit 0) (eL [(0,.ptr (some (3,0))),(3,.int .u64 (uS u b i)),(16,.int .i64 (Int.ofNat m)),(17,.int .i64 (Int.ofNat i))] (K [(3,.cells [.str s,.int .i64 (Int.ofNat a),.bool false])]) 4)),([(decide (Int.ofNat i<Int.ofNat m),true),(decide (Int.ofNat b.toNat>=(128:Int)),false),(decide (Int.ofNat i>(0:Int)),true),(Int.ofNat b.toNat==(0:Int),true),(true,false)],[lA (Int.ofNat a+Int.ofNat i) (a+i),(0:Int)<=Int.ofNat (a+i)/\(a+i)<s.length,lN s a i b,lA ((7:Int)*Int.ofNat i) (7*i),lM i u b,lA (Int.ofNat a+IntKind.i64.wrap (Int.ofNat i+(1:Int))) (a+(i+1))],.ret (.int .i64 (IntKind.i64.wrap (uS u b i))) (K [(3,.cells [.str s,.int .i64 (Int.ofNat (a+(i+1))),.bool false])]) 4),([(decide (Int.ofNat i<Int.ofNat m),true),(decide (Int.ofNat b.toNat>=(128:Int)),false),(decide (Int.ofNat i>(0:Int)),true),(Int.ofNat b.toNat==(0:Int),false),(Int.ofNat i==(9:Int),true),(decide (Int.ofNat b.toNat>(1:Int)),true)],[lA (Int.ofNat a+Int.ofNat i) (a+i),(0:Int)<=Int.ofNat (a+i)/\(a+i)<s.length,lN s a i b,lA ((7:Int)*Int.ofNat i) (7*i),lM i u b],.to (.exit 0) (eL [(0,.ptr (some (3,0))),(3,.int .u64 (uS u b i)),(16,.int .i64 (Int.ofNat m)),(17,.int .i64 (Int.ofNat i))] (K [(3,.cells [.str s,.int .i64 (Int.ofNat a),.bool false])]) 4)),([(decide (Int.ofNat i<Int.ofNat m),true),(decide (Int.ofNat b.toNat>=(128:Int)),false),(decide (Int.ofNat i>(0:Int)),true),(Int.ofNat b.toNat==(0:Int),false),(Int.ofNat i==(9:Int),true),(decide (Int.ofNat b.toNat>(1:Int)),false)],[lA (Int.ofNat a+Int.ofNat i) (a+i),(0:Int)<=Int.ofNat (a+i)/\(a+i)<s.length,lN s a i b,lA ((7:Int)*Int.ofNat i) (7*i),lM i u b,lA (Int.ofNat a+IntKind.i64.wrap (Int.ofNat i+(1:Int))) (a+(i+1))],.ret (.int .i64 (IntKind.i64.wrap (uS u b i))) (K [(3,.cells [.str s,.int .i64 (Int.ofNat (a+(i+1))),.bool false])]) 4),([(decide (Int.ofNat i<Int.ofNat m),true),(decide (Int.ofNat b.toNat>=(128:Int)),false),(decide (Int.ofNat i>(0:Int)),true),(Int.ofNat b.toNat==(0:Int),false),(Int.ofNat i==(9:Int),false),(false,true)],[lA (Int.ofNat a+Int.ofNat i) (a+i),(0:Int)<=Int.ofNat (a+i)/\(a+i)<s.length,lN s a i b,lA ((7:Int)*Int.ofNat i) (7*i),lM i u b],.to (.exit 0) (eL [(0,.ptr (some (3,0))),(3,.int .u64 (uS u b i)),(16,.int .i64 (Int.ofNat m)),(17,.int .i64 (Int.ofNat i))] (K [(3,.cells [.str s,.int .i64 (Int.ofNat a),.bool false])]) 4)),([(decide (Int.ofNat i<Int.ofNat m),true),(decide (Int.ofNat b.toNat>=(128:Int)),false),(decide (Int.ofNat i>(0:Int)),true),(Int.ofNat b.toNat==(0:Int),false),(Int.ofNat i==(9:Int),false),(false,false)],[lA (Int.ofNat a+Int.ofNat i) (a+i),(0:Int)<=Int.ofNat (a+i)/\(a+i)<s.length,lN s a i b,lA ((7:Int)*Int.ofNat i) (7*i),lM i u b,lA (Int.ofNat a+IntKind.i64.wrap (Int.ofNat i+(1:Int))) (a+(i+1))],.ret (.int .i64 (IntKind.i64.wrap (uS u b i))) (K [(3,.cells [.str s,.int .i64 (Int.ofNat (a+(i+1))),.bool false])]) 4),([(decide (Int.ofNat i<Int.ofNat m),true),(decide (Int.ofNat b.toNat>=(128:Int)),false),(decide (Int.ofNat i>(0:Int)),false),(false,true),(true,true)],[lA (Int.ofNat a+Int.ofNat i) (a+i),(0:Int)<=Int.ofNat (a+i)/\(a+i)<s.length,lN s a i b,lA ((7:Int)*Int.ofNat i) (7*i),lM i u b],.to (.exit 0) (eL [(0,.ptr (some (3,0))),(3,.int .u64 (uS u b i)),(16,.int .i64 (Int.ofNat m)),(17,.int .i64 (Int.ofNat i))] (K [(3,.cells [.str s,.int .i64 (Int.ofNat a),.bool false])]) 4)),([(decide (Int.ofNat i<Int.ofNat m),true),(decide (Int.ofNat b.toNat>=(128:Int)),false),(decide (Int.ofNat i>(0:Int)),false),(false,true),(true,false)],[lA (Int.ofNat a+Int.ofNat i) (a+i),(0:Int)<=Int.ofNat (a+i)/\(a+i)<s.length,lN s a i b,lA ((7:Int)*Int.ofNat i) (7*i),lM i u b,lA (Int.ofNat a+IntKind.i64.wrap (Int.ofNat i+(1:Int))) (a+(i+1))],.ret (.int .i64 (IntKind.i64.wrap (uS u b i))) (K [(3,.cells [.str s,.int .i64 (Int.ofNat (a+(i+1))),.bool false])]) 4),([(decide (Int.ofNat i<Int.ofNat m),true),(decide (Int.ofNat b.toNat>=(128:Int)),false),(decide (Int.ofNat i>(0:Int)),false),(false,false),(Int.ofNat i==(9:Int),true),(decide (Int.ofNat b.toNat>(1:Int)),true)],[lA (Int.ofNat a+Int.ofNat i) (a+i),(0:Int)<=Int.ofNat (a+i)/\(a+i)<s.length,lN s a i b,lA ((7:Int)*Int.ofNat i) (7*i),lM i u b],.to (.exit 0) (eL [(0,.ptr (some (3,0))),(3,.int .u64 (uS u b i)),(16,.int .i64 (Int.ofNat m)),(17,.int .i64 (Int.ofNat i))] (K [(3,.cells [.str s,.int .i64 (Int.ofNat a),.bool false])]) 4)),([(decide (Int.ofNat i<Int.ofNat m),true),(decide (Int.ofNat b.toNat>=(128:Int)),false),(decide (Int.ofNat i>(0:Int)),false),(false,false),(Int.ofNat i==(9:Int),true),(decide (Int.ofNat b.toNat>(1:Int)),false)],[lA (Int.ofNat a+Int.ofNat i) (a+i),(0:Int)<=Int.ofNat (a+i)/\(a+i)<s.length,lN s a i b,lA ((7:Int)*Int.ofNat i) (7*i),lM i u b,lA (Int.ofNat a+IntKind.i64.wrap (Int.ofNat i+(1:Int))) (a+(i+1))],.ret (.int .i64 (IntKind.i64.wrap (uS u b i))) (K [(3,.cells [.str s,.int .i64 (Int.ofNat (a+(i+1))),.bool false])]) 4),([(decide (Int.ofNat i<Int.ofNat m),true),(decide (Int.ofNat b.toNat>=(128:Int)),false),(decide (Int.ofNat i>(0:Int)),false),(false,false),(Int.ofNat i==(9:Int),false),(false,true)],[lA (Int.ofNat a+Int.ofNat i) (a+i),(0:Int)<=Int.ofNat (a+i)/\(a+i)<s.length,lN s a i b,lA ((7:Int)*Int.ofNat i) (7*i),lM i u b],.to (.exit 0) (eL [(0,.ptr (some (3,0))),(3,.int .u64 (uS u b i)),(16,.int .i64 (Int.ofNat m)),(17,.int .i64 (Int.ofNat i))] (K [(3,.cells [.str s,.int .i64 (Int.ofNat a),.bool false])]) 4)),([(decide (Int.ofNat i<Int.ofNat m),true),(decide (Int.ofNat b.toNat>=(128:Int)),false),(decide (Int.ofNat i>(0:Int)),false),(false,false),(Int.ofNat i==(9:Int),false),(false,false)],[lA (Int.ofNat a+Int.ofNat i) (a+i),(0:Int)<=Int.ofNat (a+i)/\(a+i)<s.length,lN s a i b,lA ((7:Int)*Int.ofNat i) (7*i),lM i u b,lA (Int.ofNat a+IntKind.i64.wrap (Int.ofNat i+(1:Int))) (a+(i+1))],.ret (.int .i64 (IntKind.i64.wrap (uS u b i))) (K [(3,.cells [.str s,.int .i64 (Int.ofNat (a+(i+1))),.bool false])]) 4),([(decide (Int.ofNat i<Int.ofNat m),false)],[],.to (.exit 0) (eL [(0,.ptr (some (3,0))),(3,.int .u64 u),(16,.int .i64 (Int.ofNat m)),(17,.int .i64 (Int.ofNat i))] (K [(3,.cells [.str s,.int .i64 (Int.ofNat a),.bool false])]) 4))]:=cT.ef
theorem agI(u:Int):dc (mD []) [] 4 Tryz.f110 [] (dU Wj) (Zt s a u m i) [([],[],.ret (.int .i64 0) (K [(3,.cells [.str s,.int .i64 (Int.ofNat a),.bool true])]) 4)]:=cT.ef
end
theorem Wk:abL:=by
 refine⟨dP,fun j hj=>?_,ax rfl⟩;rcases j with _|_|_|j
 . exact⟨(0,0),by simp[kf],rfl⟩
 . exact⟨(1,1),by simp[kf],rfl⟩
 . exact⟨(2,2),by simp[kf],rfl⟩
 . have:gN=3:=rfl;omega
def Py(s:B)(a:Nat):Nat->Nat->Int->Option (Int×Nat)
 |0,_,_=>none
 |k+1,i,u=>if 128<=(s.getD (a+i) 0).toNat then Py s a k (i+1) (uS u (s.getD (a+i) 0) i)
  else if(0<i/\(s.getD (a+i) 0).toNat=0)\/(i=9/\1<(s.getD (a+i) 0).toNat)then none else some (IntKind.i64.wrap (uS u (s.getD (a+i) 0) i),i+1)
def xG(s:B)(a:Nat):Nat:=min 10 (s.length-a)
section
variable(s:B)(a:Nat)
def xH:Option (Int×Nat):=Py s a (xG s a) 0 0
def Qs:Int×Nat×Bool:=match xH s a with
 |some (v,k)=>(v,a+k,false)
 |none=>(0,a,true)
theorem l8{n:Nat}(h:n<=9000000000000000000):IntKind.i64.wrap (n:Int)=(n:Int):=eV L L
theorem jZ:∀n:Nat,Int.ofNat n=(n:Int):=fun _=>rfl
abbrev Wl(v:V)(h:H rs)(n:Nat):Prop:=v= .int .i64 (Qs s a).1/\h=hP (HD s (Qs s a).2.1 (Qs s a).2.2)/\n=4
theorem anj(ha:a<=s.length)(hs:s.length<=1000000000):TG ak 4 Tryz.f110.ntmps Px (cZ [Qr] (hP (HD s a false)) 4) (fL ak 4 Tryz.f110 (Wl s a)):=by
 refine iw  3 (XQ []) (agF s a) cW ?_;refine c6 U ?_;refine c6 U ?_;obtain⟨L2,Ht⟩:=agG s a (xG s a);have W:xG s a<=10/\xG s a<=s.length-a:=⟨Nat.min_le_left _ _,Nat.min_le_right _ _⟩;have Vp:(if IntKind.i64.wrap ((Int.ofNat s.length)-Int.ofNat a)<(10:Int)then IntKind.i64.wrap ((Int.ofNat s.length)-Int.ofNat a)else(10:Int))=Int.ofNat (xG s a):=by
  have hw:IntKind.i64.wrap ((Int.ofNat s.length)-Int.ofNat a)=((s.length-a:Nat):Int):=by
   have:(Int.ofNat s.length)-Int.ofNat a=((s.length-a:Nat):Int):=by rw[jZ,jZ];omega
   rw[this];exact l8 L
  rw[hw,jZ];unfold xG;split<;>omega
 refine gP (XQ []) mo oL U Ht (dG ?_);refine⟨cA.2 ⟨by rw[Vp],cA.2 ⟨rfl,cW⟩⟩,fun s' ek=>?_⟩;have IV:∀u i,xH s a=none->TG ak 4 Tryz.f110.ntmps (dU Wj) (Zt s a u (xG s a) i) (fL ak 4 Tryz.f110 (Wl s a)):=by
  intro u i hn;refine eZ (XQ []) (agI s a (xG s a) i u) (dG ?_);refine⟨cW,_,_,_,rfl,?_⟩;unfold Wl Qs;rw[hn];exact⟨rfl,rfl,rfl⟩
 refine jz (α:=Nat×Int) 0 (fun x=>xG s a-x.1) (fun x=>x.1<=xG s a/\xH s a=Py s a (xG s a-x.1) x.1 x.2) (fun x=>Zt s a x.2 (xG s a) x.1) U U (0,0) ⟨aX _,rfl⟩ (.norm ek) ?_;rintro⟨i,u⟩ ⟨hi,hv⟩;simp only at hi hv ⊢;have ank:∀b:UInt8,b.toNat<256:=fun b=>b.toNat_lt;obtain⟨L3,yw⟩:=agH s a (xG s a) i u (s.getD (a+i) 0);refine gP (XQ []) mo (Wl s a) U yw fun g hg J=>?_;have hA:∀k,i<xG s a->k<1000000000->(0:Int)<=Int.ofNat (a+i)/\(Int.ofNat (a+i)).toNat<s.length:=fun k h _=>by rw[jZ];constructor<;>omega
 by_cases fH:i<xG s a
 case neg=>
  have hn:xH s a=none:=by rw[hv,show xG s a-i=0 by omega];rfl
  simp only[aD,aN,br]at hg;have hf:decide (Int.ofNat i<Int.ofNat (xG s a))=false:=bz dr;rcases hg with rfl|rfl|rfl|rfl|rfl|rfl|rfl|rfl|rfl|rfl|rfl|rfl|rfl|rfl
  all_goals first
   |(have:=J _ (aQ ..);simp only[hf]at this;cases this;done)
   |skip
  exact⟨cW,fun s' ek=>by simp only[andThen,dY];exact dh ek (IV u i hn)⟩
 case pos=>
 have e1:lA (Int.ofNat a+Int.ofNat i) (a+i):=fP dr L;have e2:=hA 0 fH dP;have e3:lN s a i (s.getD (a+i) 0):=rfl;have e4:lA ((7:Int)*Int.ofNat i) (7*i):=fP dr L;have e5:lM i u (s.getD (a+i) 0):=rfl;have e6:lA (Int.ofNat i+(1:Int)) (i+1):=fP dr L;have e7:lA (Int.ofNat a+IntKind.i64.wrap (Int.ofNat i+(1:Int))) (a+(i+1)):=by
  have:IntKind.i64.wrap (Int.ofNat i+(1:Int))=((i+1:Nat):Int):=by
   have:Int.ofNat i+1=((i+1:Nat):Int):=by rw[jZ];omega
   rw[this];exact l8 L
  exact fP (by rw[this,jZ];omega) L
 have Jv:xH s a=if 128<=(s.getD (a+i) 0).toNat then Py s a (xG s a-(i+1)) (i+1) (uS u (s.getD (a+i) 0) i)
  else if(0<i/\(s.getD (a+i) 0).toNat=0)\/(i=9/\1<(s.getD (a+i) 0).toNat)then none else some (IntKind.i64.wrap (uS u (s.getD (a+i) 0) i),i+1):=by
  rw[hv,show xG s a-i=(xG s a-(i+1))+1 by omega];rfl
 generalize s.getD (a+i) 0=b at *;have uM:128<=b.toNat->∀s',fe 4 [0,3,16,17] s'=some (Zt s a (uS u b i) (xG s a) (i+1))->∃x':Nat×Int,xG s a-x'.1<xG s a-i/\(x'.1<=xG s a/\xH s a=Py s a (xG s a-x'.1) x'.1 x'.2)/\gI ak 4 Tryz.f110.ntmps s' (Zt s a x'.2 (xG s a) x'.1):=fun h s' ek=>
  ⟨(i+1,uS u b i),by simp only;omega,⟨by simp only;omega,by rw[Jv,aF h]⟩,.norm ek⟩
 have SI:¬128<=b.toNat->((0<i/\b.toNat=0)\/(i=9/\1<b.toNat))->∀s',fe 4 [0,3,16,17] s'=some (Zt s a (uS u b i) (xG s a) i)->TG ak 4 Tryz.f110.ntmps (dU Wj) s' (fL ak 4 Tryz.f110 (Wl s a)):=fun X h2 s' ek=>
  dh ek (IV _ _ (by rw[Jv,aJ X,aF h2]))
 have L0:¬128<=b.toNat->¬((0<i/\b.toNat=0)\/(i=9/\1<b.toNat))->Wl s a (.int .i64 (IntKind.i64.wrap (uS u b i))) (K [(3,.cells [.str s,.int .i64 (Int.ofNat (a+(i+1))),.bool false])]) 4:=fun X h2=>by
  unfold Wl Qs;rw[Jv,aJ X,aJ h2];exact⟨rfl,rfl,rfl⟩
 have q1:(decide (Int.ofNat b.toNat>=(128:Int)))=decide (128<=b.toNat):=by rw[jZ];exact decide_eq_decide.2 L
 have q2:(decide (Int.ofNat i>(0:Int)))=decide (0<i):=by rw[jZ];exact decide_eq_decide.2 L
 have q3:(Int.ofNat b.toNat==(0:Int))=decide (b.toNat=0):=by
  rw[jZ];by_cases h:b.toNat=0
  . simp[h]
  . rw[bz h];simpa using h
 have q4:(Int.ofNat i==(9:Int))=decide (i=9):=by
  rw[jZ];by_cases h:i=9
  . simp[h]
  . rw[bz h];exact beq_false_of_ne L
 have q5:(decide (Int.ofNat b.toNat>(1:Int)))=decide (1<b.toNat):=by rw[jZ];exact decide_eq_decide.2 L
 simp only[aD,aN,br]at hg;rw[q1,q2,q3,q4,q5]at hg;have A5:=G e1 (G e2 (G e3 (G e4 (eS e5))));have A6:=G e1 (G e2 (G e3 (G e4 (G e5 (eS e6)))));have A7:=G e1 (G e2 (G e3 (G e4 (G e5 (eS e7)))));have SI:¬128<=b.toNat->((0<i/\b.toNat=0)\/(i=9/\1<b.toNat))->∀(Q1:St->Prop) (s':St),fe 4 [0,3,16,17] s'=some (Zt s a (uS u b i) (xG s a) i)->andThen Q1 (mK 0 (andThen (fun s'=>TG ak 4 Tryz.f110.ntmps (dU (dw 3 Px)) s' (fL ak 4 Tryz.f110 (Wl s a))) (fL ak 4 Tryz.f110 (Wl s a)))) (.exit 0) s':=fun X h2 Q1 s' ek=>by
  simp only[andThen,dY];exact SI X h2 s' ek
 rcases hg with rfl|rfl|rfl|rfl|rfl|rfl|rfl|rfl|rfl|rfl|rfl|rfl|rfl|rfl
 all_goals
  simp only[aD,aN,br,forall_eq_or_imp,forall_eq,bD,decide_eq_false_iff_not,reduceCtorEq,and_false,and_true]at J
 all_goals first|exact J.elim|skip
 . exact⟨A6,fun s' ek=>uM J.2 s' ek⟩
 . exact⟨A5,fun s' ek=>SI J.2.1 L _ s' ek⟩
 . exact⟨A5,fun s' ek=>SI J.2.1 L _ s' ek⟩
 all_goals first
  |exact⟨A7,L0 J.2.1 L,fun s' ek=>ek⟩
  |exact⟨A5,fun s' ek=>SI J.2.1 L _ s' ek⟩
  |exact absurd fH (by rw[jZ,jZ]at J;omega)
end
section
variable(s:B)(a:Nat)(n:Int)
def ji(f:Bool):Int×Nat×Bool:=if f then(0,a,true)else Qs s a
theorem abX(h:a<=s.length):(Qs s a).2.1<=s.length/\a<=(Qs s a).2.1:=by
 have key:∀k i u v n,i+k<=s.length-a->Py s a k i u=some (v,n)->n<=s.length-a:=by
  intro k
  induction k with
  |zero=>intro i u v n _ e;cases e
  |succ k ih=>
   intro i u v n hi e;unfold Py at e;split at e
   . exact ih _ _ _ _ L e
   . split at e
     . cases e
     . simp only[an,aB]at e;omega
 unfold Qs;have W:xG s a<=s.length-a:=Nat.min_le_right _ _;cases e:xH s a with
 |none=>exact⟨h,aC _⟩
 |some p=>
  have:=key _ _ _ _ _ L e;exact⟨by simp only;omega,by simp only;omega⟩
def spV:ag->ag->Option (ah×V×ag)
 | [.str s,.int .i64 x,.bool f],[]=>some ([0<=x/\x.toNat<=s.length,s.length<=1000000000],.int .i64 (ji s x.toNat f).1,HD s (ji s x.toNat f).2.1 (ji s x.toNat f).2.2)
 |_,_=>none
theorem abY:jK ak 110 (E5 spV):=by
 refine Co mo po Wk (ax U) Tryz.func110 (code:=Px) U fun Q args cU v vK e hA=>⟨?_,?_⟩
 all_goals
  unfold spV at e;split at e
  case h_2=>cases e
  rename_i s x f;simp only[an,aB]at e;obtain⟨rfl,rfl,rfl⟩:=e
 . kernel_rfl
 obtain⟨a1,a2⟩:=hA _ (aQ ..);have a3:s.length<=1000000000:=hA (s.length<=1000000000) (by simp);obtain⟨a,rfl⟩:∃a:Nat,x=Int.ofNat a:=⟨x.toNat,(Int.toNat_of_nonneg a1).symm⟩;have a2:a<=s.length:=a2;cases f with
 |false=>exact anj s a a2 a3
 |true=>
  refine eZ (XQ []) (agE s (Int.ofNat a)) (dG ?_);exact⟨cW,_,_,_,rfl,rfl,rfl,rfl⟩
noncomputable abbrev W17:jY:=kC 110 (E5 spV) W14
theorem SJ:gm ak W17:=fh abY LV
noncomputable abbrev ann:e9:=gL ak W17 H0 1000 40
noncomputable abbrev X17:CX ak:=CX.of mo po SJ H0 1000 40
noncomputable abbrev abZ:Code:=dO Tryz.f111
theorem ano:dc ann [] 4 Tryz.f111 [] (abZ) (cZ [Qr,.int .i64 n] (hP (HD s a true)) 4) [([],[],.ret (.str []) (K [(3,.cells [.str s,.int .i64 (Int.ofNat a),.bool true])]) 4)]:=cT.ef
abbrev SL:Prop:=(0:Int)<=Int.ofNat (a+n.toNat)/\Int.ofNat (a+n.toNat)<=(Int.ofNat s.length)
theorem anp(l:Nat)(n:Int):dc (mD [(105,[(14,.di (.int .i64 (Int.ofNat l)))])]) [(17,.split),(22,.split),(33,.di (.int .i64 (Int.ofNat (a+n.toNat)))),(45,.di (.int .i64 (Int.ofNat a)))] 4 Tryz.f111 [] (abZ) (cZ [Qr,.int .i64 n] (hP (HD s a false)) 4) [([(decide (n<(0:Int)),true),(true,true)],[],.ret (.str []) (K [(3,.cells [.str s,.int .i64 (Int.ofNat a),.bool true])]) 4),([(decide (n<(0:Int)),true),(true,false)],[lA (Int.ofNat a+n) (a+n.toNat),lA (Int.ofNat (a+n.toNat)-n) a,SL s a n,(0:Int)<=Int.ofNat a/\Int.ofNat a<=(Int.ofNat (a+n.toNat))],.ret (.str (List.drop a (List.take (a+n.toNat) s))) (K [(3,.cells [.str s,.int .i64 (Int.ofNat (a+n.toNat)),.bool false])]) 4),([(decide (n<(0:Int)),false),(decide (n>Int.ofNat l),true)],[lA ((Int.ofNat s.length)-Int.ofNat a) l],.ret (.str []) (K [(3,.cells [.str s,.int .i64 (Int.ofNat a),.bool true])]) 4),([(decide (n<(0:Int)),false),(decide (n>Int.ofNat l),false)],[lA ((Int.ofNat s.length)-Int.ofNat a) l,lA (Int.ofNat a+n) (a+n.toNat),lA (Int.ofNat (a+n.toNat)-n) a,SL s a n,(0:Int)<=Int.ofNat a/\Int.ofNat a<=(Int.ofNat (a+n.toNat))],.ret (.str (List.drop a (List.take (a+n.toNat) s))) (K [(3,.cells [.str s,.int .i64 (Int.ofNat (a+n.toNat)),.bool false])]) 4)]:=cT.ef
end
section
variable(s:B)(a k:Nat)(f:Bool)(n:Int)(b:UInt8)(t:B)(i:Nat)
def rM:B×Nat×Bool:=if f=true\/n<0\/((s.length-a:Nat):Int)<n then([],a,true)else((s.drop a).take n.toNat,a+n.toNat,false)
theorem ab0(h:a<=s.length):(rM s a f n).2.1<=s.length:=by
 unfold rM;split
 . exact h
 . rename_i hn;simp only;omega
def spT:ag->ag->Option (ah×V×ag)
 | [.str s,.int .i64 x,.bool f],[.int .i64 n]=>some ([0<=x/\x.toNat<=s.length,s.length<=1000000000],.str (rM s x.toNat f n).1,HD s (rM s x.toNat f n).2.1 (rM s x.toNat f n).2.2)
 |_,_=>none
theorem ab1:jK ak 111 (E5 spT):=by
 refine Co mo po Wk (ax U) Tryz.func111 (code:=abZ) U fun Q args cU v vK e hA=>⟨?_,?_⟩
 all_goals
  unfold spT at e;split at e
  case h_2=>cases e
  rename_i s x f n;simp only[an,aB]at e;obtain⟨rfl,rfl,rfl⟩:=e
 . kernel_rfl
 obtain⟨a1,a2⟩:=hA _ (aQ ..);have a3:s.length<=1000000000:=hA (s.length<=1000000000) (by simp);obtain⟨a,rfl⟩:∃a:Nat,x=Int.ofNat a:=⟨x.toNat,(Int.toNat_of_nonneg a1).symm⟩;have a2:a<=s.length:=a2;rw[show(Int.ofNat a).toNat=a from rfl];cases f with
 |true=>
  refine eZ X17 (ano s a n) (dG ?_);exact⟨cW,_,_,_,rfl,rfl,rfl,rfl⟩
 |false=>
  obtain⟨be,hr⟩:=anp s a (s.length-a) n;have hl:lA ((Int.ofNat s.length)-Int.ofNat a) (s.length-a):=fP dr L;refine ij (XQ [(105,[(14,.di (.int .i64 (Int.ofNat (s.length-a))))])]) mo _ U hr fun g hg J=>?_;simp only[aD,aN,br]at hg;rcases hg with rfl|rfl|rfl|rfl
  all_goals
   simp only[aD,aN,br,forall_eq_or_imp,forall_eq,bD,decide_eq_false_iff_not,reduceCtorEq,and_false,and_true,jZ]at J
  . refine⟨cW,_,_,_,rfl,?_⟩;unfold rM;rw[aF (.inr (.inl J))];exact⟨rfl,rfl,rfl⟩
  . refine⟨eS hl,_,_,_,rfl,?_⟩;unfold rM;rw[aF (.inr (.inr L))];exact⟨rfl,rfl,rfl⟩
  . obtain⟨X,h2⟩:=J;have hn:((n.toNat:Nat):Int)=n:=Int.toNat_of_nonneg L;refine⟨G hl (G (fP dr L) (G (fP dr L) (G ⟨aA _,dr⟩ (eS ⟨aA _,dr⟩)))),_,_,_,rfl,?_⟩;unfold rM;rw[aJ (by simp only[aP,false_or];omega)];rw[List.drop_take,Nat.add_sub_cancel_left];exact⟨rfl,rfl,rfl⟩
noncomputable abbrev W18:jY:=kC 111 (E5 spT) W17
theorem Ma:gm ak W18:=fh ab1 SJ
noncomputable abbrev Wm:e9:=gL ak W18 H0 1000 40
noncomputable abbrev X18:CX ak:=CX.of mo po Ma H0 1000 40
noncomputable abbrev agK:Code:=dO Tryz.f106
noncomputable abbrev Wn:Code:=dO Tryz.f107
noncomputable abbrev agL:Code:=dw 2 Wn
noncomputable abbrev agM:Code:=dS agL
def sRN:St:=eL [(0,Qr),(5,.int .i64 n),(12,.dx (some (4,0)) t.length t.length 1),(13,.int .i64 (Int.ofNat t.length)),(14,.int .i64 (Int.ofNat i))] (K [(3,.cells (HD s a f)),(4,.own .u8 (eo t))]) 5
noncomputable abbrev agN:e9:=gL ak W18 (rF [(85,[(5,.di (.int .i64 (Int.ofNat k)))])]) 1000 40
noncomputable abbrev anr:CX ak:=CX.of mo po Ma (rF [(85,[(5,.di (.int .i64 (Int.ofNat k)))])]) 1000 40
def zR:Int:=IntKind.i64.wrap (Int.ofNat (BitVec.ofInt 64 (IntKind.i64.wrap (n*(256:Int)))|||BitVec.ofInt 64 (IntKind.i64.wrap (Int.ofNat b.toNat))).toNat)
abbrev SM:Prop:=(0:Int)<=Int.ofNat (ji s a f).2.1/\(Int.ofNat (ji s a f).2.1).toNat<=s.length
theorem ans:dc Wm [(21,.split)] 4 Tryz.f106 [] (agK) (cZ [Qr] (hP (HD s a f)) 4) (iU ((rM s (Int.ofNat (ji s a f).2.1).toNat (ji s a f).2.2 (ji s a f).1).2.2) ([(0:Int)<=Int.ofNat a/\a<=s.length,s.length<=1000000000,SM s a f,s.length<=1000000000],.ret (.str ((rM s (Int.ofNat (ji s a f).2.1).toNat (ji s a f).2.2 (ji s a f).1).1)) (K [(3,.cells [.str s,.int .i64 (Int.ofNat a),.bool ((rM s (Int.ofNat (ji s a f).2.1).toNat (ji s a f).2.2 (ji s a f).1).2.2)])]) 4) ([(0:Int)<=Int.ofNat a/\a<=s.length,s.length<=1000000000,SM s a f,s.length<=1000000000],.ret (.str ((rM s (Int.ofNat (ji s a f).2.1).toNat (ji s a f).2.2 (ji s a f).1).1)) (K [(3,.cells [.str s,.int .i64 (Int.ofNat (rM s (Int.ofNat (ji s a f).2.1).toNat (ji s a f).2.2 (ji s a f).1).2.1),.bool ((rM s (Int.ofNat (ji s a f).2.1).toNat (ji s a f).2.2 (ji s a f).1).2.2)])]) 4)):=cT.ef
theorem ant(k:Nat):dc Wm [] 4 Tryz.f107 [0,1,5] (eU 2 Wn) (cZ [Qr,.int .i64 (Int.ofNat k)] (hP (HD s a f)) 4) [([],[],eP (eL [(0,.ptr (some (3,0))),(1,.int .i64 (Int.ofNat k)),(5,.int .i64 0)] (K [(3,.cells [.str s,.int .i64 (Int.ofNat a),.bool f])]) 4))]:=cT.ef
theorem anu(k:Nat):dc (agN k) [(14,.di (.int .i64 (Int.ofNat 0)))] 4 Tryz.f107 [0,5,12,13,14] (dS agM) (eL [(0,Qr),(1,.int .i64 (Int.ofNat k)),(5,.int .i64 0)] (hP (HD s a f)) 4) [([],[V.int aj (if(if(8:Int)<Int.ofNat k then(8:Int)else Int.ofNat k)>(0:Int)then if(8:Int)<Int.ofNat k then(8:Int)else Int.ofNat k else(0:Int))=V.int aj (Int.ofNat k),(0:Int)<=Int.ofNat a/\a<=s.length,s.length<=1000000000,V.int aj (0:Int)=V.int aj (0:Int)],eP (eL [(0,.ptr (some (3,0))),(5,.int .i64 0),(12,.dx (some (4,0)) ((rM s a f (Int.ofNat k)).1.length) ((rM s a f (Int.ofNat k)).1.length) 1),(13,.int .i64 ((Int.ofNat (rM s a f (Int.ofNat k)).1.length))),(14,.int .i64 0)] (K [(3,.cells [.str s,.int .i64 (Int.ofNat (rM s a f (Int.ofNat k)).2.1),.bool ((rM s a f (Int.ofNat k)).2.2)]),(4,.own .u8 (eo (rM s a f (Int.ofNat k)).1))]) 5))]:=cT.ef
theorem agO(b:UInt8):dc Wm [(15,.split),(17,.di (.int .u8 (Int.ofNat b.toNat))),(22,.di (.int .i64 (zR n b))),(23,.di (.int .i64 (Int.ofNat (i+1))))] 4 Tryz.f107 [0,5,12,13,14] (dD (dD (dU agM))) (sRN s a f n t i) (iU (decide (Int.ofNat i<Int.ofNat t.length)) ([kJ i t.length,0+i*1<(eo t).length,V.int IntKind.u8 ((eo t).getD (0+i*1) (0:Int))=V.int IntKind.u8 (Int.ofNat b.toNat),V.int aj (IntKind.i64.wrap (Int.ofNat (BitVec.ofInt 64 (IntKind.i64.wrap (n*(256:Int)))|||BitVec.ofInt 64 (IntKind.i64.wrap (Int.ofNat b.toNat))).toNat))=V.int aj (zR n b),lA (Int.ofNat i+(1:Int)) (i+1)],eP (eL [(0,.ptr (some (3,0))),(5,.int .i64 (zR n b)),(12,.dx (some (4,0)) (t.length) (t.length) 1),(13,.int .i64 (Int.ofNat t.length)),(14,.int .i64 (Int.ofNat (i+1)))] (K [(3,.cells [.str s,.int .i64 (Int.ofNat a),.bool f]),(4,.own .u8 (eo t))]) 5)) ([],.to (.exit 0) (eL [(0,.ptr (some (3,0))),(5,.int .i64 n),(12,.dx (some (4,0)) (t.length) (t.length) 1),(13,.int .i64 (Int.ofNat t.length)),(14,.int .i64 (Int.ofNat i))] (K [(3,.cells [.str s,.int .i64 (Int.ofNat a),.bool f]),(4,.own .u8 (eo t))]) 5))):=cT.ef
theorem anv:dc Wm [] 4 Tryz.f107 [] (dU agL) (sRN s a f n t i) [([],[],.ret (.int .i64 n) (K [(3,.cells [.str s,.int .i64 (Int.ofNat a),.bool f])]) 4)]:=cT.ef
end
section
variable(s:B)(a:Nat)(f:Bool)(k:Nat)
theorem NC(h:a<=s.length):(ji s a f).2.1<=s.length:=by
 unfold ji;split
 . exact h
 . exact(abX s a h).1
def iA:B×Nat×Bool:=
 ((rM s (ji s a f).2.1 (ji s a f).2.2 (ji s a f).1).1,if(rM s (ji s a f).2.1 (ji s a f).2.2 (ji s a f).1).2.2 then a else(rM s (ji s a f).2.1 (ji s a f).2.2 (ji s a f).1).2.1,(rM s (ji s a f).2.1 (ji s a f).2.2 (ji s a f).1).2.2)
theorem Wo(h:a<=s.length):(iA s a f).2.1<=s.length:=by
 unfold iA;simp only;split
 . exact h
 . exact ab0 _ _ _ _ (NC s a f h)
def spX:ag->ag->Option (ah×V×ag)
 | [.str s,.int .i64 x,.bool f],[]=>some ([0<=x/\x.toNat<=s.length,s.length<=1000000000],.str (iA s x.toNat f).1,HD s (iA s x.toNat f).2.1 (iA s x.toNat f).2.2)
 |_,_=>none
theorem ab2:jK ak 106 (E5 spX):=by
 refine Co mo po Wk (ax U) Tryz.func106 (code:=agK) U fun Q args cU v vK e hA=>⟨?_,?_⟩
 all_goals
  unfold spX at e;split at e
  case h_2=>cases e
  rename_i s x f;simp only[an,aB]at e;obtain⟨rfl,rfl,rfl⟩:=e
 . kernel_rfl
 obtain⟨a1,a2⟩:=hA _ (aQ ..);have a3:s.length<=1000000000:=hA (s.length<=1000000000) (by simp);obtain⟨a,rfl⟩:∃a:Nat,x=Int.ofNat a:=⟨x.toNat,(Int.toNat_of_nonneg a1).symm⟩;have a2:a<=s.length:=a2;rw[show(Int.ofNat a).toNat=a from rfl];obtain⟨be,hr⟩:=ans s a f;have X:=NC s a f a2;refine ij X18 mo _ U hr fun g hg J=>?_;simp only[aD,aN,br]at hg;have cU:∀p∈[((0:Int)<=Int.ofNat a/\a<=s.length),(s.length<=1000000000),((0:Int)<=Int.ofNat (ji s a f).2.1/\(Int.ofNat (ji s a f).2.1).toNat<=s.length),(s.length<=1000000000)],p:=
  G ⟨aA _,a2⟩ (G a3 (G ⟨aA _,X⟩ (eS a3)))
 rcases hg with rfl|rfl
 all_goals
  have q:=J _ (au.2 rfl);refine⟨cU,_,_,_,rfl,rfl,?_,rfl⟩;have q:(iA s a f).2.2=_:=q;have q':(iA s a f).2.1=if(iA s a f).2.2 then a else(rM s (ji s a f).2.1 (ji s a f).2.2 (ji s a f).1).2.1:=rfl
  rw[q]at q';rw[q'];rfl
def yO:Int×Nat×Bool:=((rM s a f (Int.ofNat k)).1.foldl zR 0,(rM s a f (Int.ofNat k)).2.1,(rM s a f (Int.ofNat k)).2.2)
theorem Mb{t:B}{i:Nat}{b:UInt8}(h:t[i]? =some b):(eo t).getD (0+i*1) 0=Int.ofNat b.toNat:=by
 unfold eo;rw[aO,bI,bn,bu,h];rfl
theorem anx(f:Bool)(ha:a<=s.length)(hs:s.length<=1000000000)(hk:k<=8):TG ak 4 Tryz.f107.ntmps Wn (cZ [Qr,.int .i64 (Int.ofNat k)] (hP (HD s a f)) 4)
  (fL ak 4 Tryz.f107 fun v h n=>v= .int .i64 (yO s a f k).1/\h=hP (HD s (yO s a f k).2.1 (yO s a f k).2.2)/\n=4):=by
 refine iw  2 X18 (ant s a f k) cW ?_;refine c6 U ?_;refine c6 U ?_;refine fV (anr k) (anu s a f k) (dG ?_);refine⟨G (aL (V.int aj) ?_) (G ⟨aA _,ha⟩ (G hs (eS rfl))),fun s' ek=>?_⟩
 . simp only[jZ];split<;>split<;>omega
 have ja:(rM s a f (Int.ofNat k)).1.length<=8:=by
  unfold rM;split
  . simp
  . simp only[aY,jZ,Int.toNat_natCast];omega
 unfold yO;generalize hT:rM s a f (Int.ofNat k)=cS at ek ja ⊢;obtain⟨t,a1,f1⟩:=cS;have ek:fe 4 [0,5,12,13,14] s'=some (sRN s a1 f1 ((t.take 0).foldl zR 0) t 0):=ek;simp only at ja ⊢;refine ju 0 t.length (fun i=>sRN s a1 f1 ((t.take i).foldl zR 0) t i) U U (.norm ek) (fun i hi=>?_) ?_
 . obtain⟨b,hb⟩:∃b,t[i]? =some b:=⟨_,az hi⟩;refine fV X18 (agO s a1 f1 ((t.take i).foldl zR 0) t i b) fun g hg J=>?_;simp only[aD,aN,br]at hg;rcases hg with rfl|rfl
   . refine⟨G ⟨aA _,dr⟩ (G (by simp only[eo,bf];omega) (G (aL _ (Mb hb)) (G rfl (eS (fP dr L))))),fun s' ek=>.norm (live:=[0,5,12,13,14]) ?_⟩;show _=some (sRN s a1 f1 ((t.take (i+1)).foldl zR 0) t (i+1));rw[bH,hb,cF,cR];exact ek
   . exact absurd (aK (J _ (au.2 rfl))) dr
 . refine fV X18 (agO s a1 f1 ((t.take t.length).foldl zR 0) t t.length 0) fun g hg J=>?_;simp only[aD,aN,br]at hg;rcases hg with rfl|rfl
   . exact absurd (aI (J _ (au.2 rfl))) L
   . refine⟨cW,fun s' ek=>⟨by simp,?_⟩⟩;rw[dY];simp only[andThen];have ek:fe 4 [0,5,12,13,14] s'=some (sRN s a1 f1 ((t.take t.length).foldl zR 0) t t.length):=ek;refine dh ek ?_;refine eZ X18 (anv s a1 f1 ((t.take t.length).foldl zR 0) t t.length) (dG ?_);exact⟨cW,_,_,_,rfl,by rw[aU],rfl,rfl⟩
end
def spN:ag->ag->Option (ah×V×ag)
 | [.str s,.int .i64 x,.bool f],[.int .i64 k]=>some ([0<=x/\x.toNat<=s.length,s.length<=1000000000,0<=k/\k.toNat<=8],.int .i64 (yO s x.toNat f k.toNat).1,HD s (yO s x.toNat f k.toNat).2.1 (yO s x.toNat f k.toNat).2.2)
 |_,_=>none
theorem ab3:jK ak 107 (E5 spN):=by
 refine Co mo po Wk (ax U) Tryz.func107 (code:=Wn) U fun Q args cU v vK e hA=>⟨?_,?_⟩
 all_goals
  unfold spN at e;split at e
  case h_2=>cases e
  rename_i s x f k;simp only[an,aB]at e;obtain⟨rfl,rfl,rfl⟩:=e
 . kernel_rfl
 obtain⟨a1,a2⟩:=hA _ (aQ ..);have a3:s.length<=1000000000:=hA (s.length<=1000000000) (by simp);obtain⟨a4,a5⟩:0<=k/\k.toNat<=8:=hA (0<=k/\k.toNat<=8) (by simp);obtain⟨a,rfl⟩:∃a:Nat,x=Int.ofNat a:=⟨x.toNat,(Int.toNat_of_nonneg a1).symm⟩;obtain⟨k,rfl⟩:∃a:Nat,k=Int.ofNat a:=⟨k.toNat,(Int.toNat_of_nonneg a4).symm⟩;exact anx s a k f a2 a3 a5
noncomputable abbrev W19:jY:=kC 106 (E5 spX) (kC 107 (E5 spN) W18)
theorem HE:gm ak W19:=fh ab2 (fh ab3 Ma)
noncomputable abbrev mE:e9:=gL ak W19 H0 1000 40
noncomputable abbrev uW:CX ak:=CX.of mo po HE H0 1000 40
theorem agQ:∀x:Nat,x<256->x|||128=x%128+128:=by decide
section
variable(u n:Nat){s:B}{q:Nat}{b:UInt8}{r:B}
theorem u8w:IntKind.u8.wrap (n:Int)=((n%256:Nat):Int):=by
 simp only[IntKind.wrap,IntKind.bits,IntKind.signed];simp
theorem Wp:IntKind.u64.wrap (n:Int)=((n%18446744073709551616:Nat):Int):=by
 simp only[IntKind.wrap,IntKind.bits,IntKind.signed];simp
theorem ND:U8 (u:Int)=((u%128+128:Nat):Int):=by
 unfold U8;rw[u8w];have X:(BitVec.ofInt 8 ((u%256:Nat):Int)|||BitVec.ofInt 8 (128:Int)).toNat=u%128+128:=by
  rw[BitVec.toNat_or];have e1:(BitVec.ofInt 8 ((u%256:Nat):Int)).toNat=u%256:=by
   rw[BitVec.ofInt_natCast,BitVec.toNat_ofNat];omega
  have e2:(BitVec.ofInt 8 (128:Int)).toNat=128:=rfl;rw[e1,e2,agQ _ L];omega
 rw[X,jZ,u8w];congr 1;omega
theorem NF(h:u<128):loB (u:Int)=(u:Int):=by
 unfold loB;rw[u8w];congr 1;omega
theorem DT:(u:Int).fdiv 128=((u/128:Nat):Int):=by
 rw[cM _ dP];rfl
theorem SN{n:Nat}(h:n<256):(UInt8.ofNat n).toNat=n:=by
 rw[UInt8.toNat_ofNat'];omega
theorem SO(gz:Nat)(b:UInt8)(i:Nat)(ha:gz<2^(7*i))(hi:i<=7):uS (gz:Int) b i=((gz+b.toNat%128*2^(7*i):Nat):Int):=by
 have hb:b.toNat<256:=b.toNat_lt;unfold uS;have e1:(BitVec.ofInt 8 (Int.ofNat b.toNat)&&&BitVec.ofInt 8 (127:Int)).toNat=b.toNat%128:=by
  rw[BitVec.toNat_and];have e2:(BitVec.ofInt 8 (127:Int)).toNat=2^7-1:=rfl;have e3:(BitVec.ofInt 8 (Int.ofNat b.toNat)).toNat=b.toNat:=by
   rw[jZ,BitVec.ofInt_natCast,BitVec.toNat_ofNat];omega
  rw[e2,e3,Nat.and_two_pow_sub_one_eq_mod]
 have hp:2^(7*i)<=2^49:=Nat.pow_le_pow_right dP L;have avl:b.toNat%128*2^(7*i)<128*2^49:=by
  have:b.toNat%128<128:=by omega
  calc b.toNat%128*2^(7*i)<=127*2^(7*i):=cz _ L
   _<=127*2^49:=Nat.mul_le_mul_left _ hp
   _<128*2^49:=by decide
 rw[e1];simp only[jZ];rw[u8w,Wp (b.toNat%128%256),Int.toNat_natCast,show min (7*i) 64=7*i by omega];have e4:(((b.toNat%128%256%18446744073709551616:Nat):Int)*(2:Int)^(7*i))=((b.toNat%128*2^(7*i):Nat):Int):=by
  rw[show b.toNat%128%256%18446744073709551616=b.toNat%128 by omega];simp[Int.natCast_mul,Int.natCast_pow]
 rw[e4,Wp (b.toNat%128*2^(7*i)),BitVec.toNat_or,BitVec.ofInt_natCast,BitVec.ofInt_natCast,BitVec.toNat_ofNat,BitVec.toNat_ofNat];have h64:(2:Nat)^64=18446744073709551616:=by decide
 have h49:(128:Nat)*2^49<18446744073709551616:=by decide
 have avm:(2:Nat)^49<18446744073709551616:=by decide
 rw[h64,Nat.mod_mod,cI (a:=gz) L,cI (a:=b.toNat%128*2^(7*i)) L];have h5:gz|||b.toNat%128*2^(7*i)=gz+b.toNat%128*2^(7*i):=by
  rw[Nat.or_comm,Nat.mul_comm,<- Nat.two_pow_add_eq_or_of_lt ha,Nat.add_comm]
 rw[h5,Wp];have:gz+b.toNat%128*2^(7*i)<18446744073709551616:=by
  have h6:gz<2^49:=by omega
  have h7:(128:Nat)*2^49+2^49<18446744073709551616:=by decide
  omega
 rw[cI this]
theorem zS(h:s.drop q=b::r):s.getD q 0=b:=by
 have:(s.drop q)[0]? =some b:=by rw[h];rfl
 rw[bL,Nat.add_zero]at this;rw[aO,this];rfl
theorem Pz(h:s.drop q=b::r):s.drop (q+1)=r:=by
 rw[<- List.drop_drop,h];rfl
theorem u8I{n:Nat}(h:n<256):(UInt8.ofNat (n:Int).toNat).toNat=n:=by rw[Int.toNat_natCast,SN h]
end
theorem JC:∀(k m i gz u:Nat) (s:B) (a:Nat) (r:B),u<128^(k+1)->i+k<=7->gz<2^(7*i)->(0<i->0<u)->s.drop (a+i)=eW (oO k (u:Int))++r->(oO k (u:Int)).length<=m->
  Py s a m i (gz:Int)=some (((gz+u*2^(7*i):Nat):Int),i+(oO k (u:Int)).length)
 |k,0,_,_,u,_,_,_,_,_,_,_,_,W=>by have:=(DG k (u:Int)).1;omega
 |k,m+1,i,gz,u,s,a,r,hu,hi,ha,h0,hs,W=>by
  have last:u<128->s.drop (a+i)=UInt8.ofNat (u:Int).toNat::r->Py s a (m+1) i (gz:Int)=some (((gz+u*2^(7*i):Nat):Int),i+1):=by
   intro fH hd;unfold Py;rw[zS hd,u8I L,aJ L,aJ L,SO _ _ _ ha L,u8I L,show u%128=u by omega];have hp:2^(7*i)<=2^49:=Nat.pow_le_pow_right dP L;have hm2:u*2^(7*i)<=127*2^49:=bR (cz _ L) (Nat.mul_le_mul_left _ hp);have h9:(127:Nat)*2^49+2^49<=9000000000000000000:=by decide
   rw[l8 L]
  cases k with
  |zero=>
   simp only[oO]at hs ⊢;rw[NF u L]at hs;exact last L hs
  |succ k=>
   unfold oO at hs W ⊢;by_cases h128:(128:Int)<=(u:Int)
   . rw[aF h128]at hs W ⊢;rw[ND,DT]at hs;rw[DT]at W ⊢;have hs:s.drop (a+i)=UInt8.ofNat ((u%128+128:Nat):Int).toNat::(eW (oO k ((u/128:Nat):Int))++r):=hs;have hb:=u8I (n:=u%128+128) L;unfold Py;rw[zS hs,hb,aF L,SO _ _ _ ha L,hb];have e1:(u%128+128)%128=u%128:=by omega
     rw[e1];have agT:(2:Nat)^(7*(i+1))=128*2^(7*i):=by rw[show 7*(i+1)=7+7*i by omega,Nat.pow_add]
     have fH:u%128*2^(7*i)<=127*2^(7*i):=cz _ L;have hu2:u/128<128^(k+1):=by
      rw[Nat.pow_succ]at hu;exact Nat.div_lt_of_lt_mul (by rw[Nat.mul_comm];exact hu)
     have ih:=JC k m (i+1) (gz+u%128*2^(7*i)) (u/128) s a r hu2 L (by rw[agT];omega) L (Pz hs) (by simpa using W);rw[ih,agT];have e2:gz+u%128*2^(7*i)+u/128*(128*2^(7*i))=gz+u*2^(7*i):=by
      rw[cE,<- Nat.mul_assoc,<- cQ];congr 2;omega
     rw[e2,aT,cE,Nat.add_comm 1]
   . rw[aJ h128]at hs W ⊢;rw[NF u L]at hs;exact last L hs
section
variable{s:B}(x:Nat){a:Nat}{t r:B}
theorem vu(l:List Int):(eW l).length=l.length:=by unfold eW;rw[bf]
theorem HF{n:Nat}{r:B}(hn:n<34359738368)(h:s.drop a=jE (Int.ofNat n)++r):Qs s a=((n:Int),a+(jE (Int.ofNat n)).length,false):=by
 have hl:(jE (Int.ofNat n)).length=(oO 4 (n:Int)).length:=vu _;have h5:=mN (Int.ofNat n);have hd:s.length-a=(jE (Int.ofNat n)).length+r.length:=by rw[<- b7,h,ay]
 have:=JC 4 (xG s a) 0 0 n s a r L L dP L h (by unfold xG;omega);simp only[bI,Nat.mul_zero,Nat.pow_zero,bn]at this;unfold Qs xH;rw[show((0:Nat):Int)=0 from rfl]at this;rw[this,hl]
theorem HG(h:s.drop a=t++r):rM s a false (t.length:Int)=(t,a+t.length,false):=by
 have hd:s.length-a=t.length+r.length:=by rw[<- b7,h,ay]
 unfold rM;rw[aJ (by simp only[aP,false_or];omega),h,Int.toNat_natCast,List.take_left'];rfl
theorem zT(ht:t.length<34359738368)(h:s.drop a=jH t++r):iA s a false=(t,a+(jH t).length,false):=by
 have X:s.drop a=jE (Int.ofNat t.length)++(t++r):=by rw[h];unfold jH;rw[bA]
 have e1:=HF ht X;have h2:s.drop (a+(jE (Int.ofNat t.length)).length)=t++r:=by rw[<- List.drop_drop,X,List.drop_left'];rfl
 have e2:=HG h2;unfold iA ji;simp only[aP,cJ,e1,e2];unfold jH;rw[ay,cE]
theorem vZ(n:Nat)(b:UInt8)(h:n<1099511627776):zR (n:Int) b=((n*256+b.toNat:Nat):Int):=by
 have hb:b.toNat<256:=b.toNat_lt;unfold zR;have e1:(n:Int)*(256:Int)=((n*256:Nat):Int):=by simp
 rw[e1,l8 L,jZ b.toNat,l8 L,BitVec.toNat_or,BitVec.ofInt_natCast,BitVec.ofInt_natCast,BitVec.toNat_ofNat,BitVec.toNat_ofNat];have h64:(2:Nat)^64=18446744073709551616:=by decide
 rw[h64,cI (a:=n*256) L,cI (a:=b.toNat) L];have h5:n*256|||b.toNat=n*256+b.toNat:=by
  rw[Nat.mul_comm n 256,show(256:Nat)=2^8 by decide,<- Nat.two_pow_add_eq_or_of_lt L]
 rw[h5,jZ,l8 L]
theorem DU(d:Nat)(M:x<18446744073709551616):(pB (x:Int) (d:Int)).toNat=x/d%256:=by
 unfold pB;rw[Wp,cI M,cM _ (aA _)];rw[show(x:Int)/(d:Int)=((x/d:Nat):Int)from rfl,u8w,u8I L]
theorem PA(M:x<4294967296):(dX (x:Int)).foldl zR 0=(x:Int):=by
 unfold dX;simp only[List.foldl_cons,List.foldl_nil];have c1:=DU x 16777216 L;have c2:=DU x 65536 L;have c3:=DU x 256 L;have c4:=DU x 1 L;have e1:=vZ 0 (pB (x:Int) 16777216) L;rw[show((0:Nat):Int)=0 from rfl]at e1;rw[e1,show(pB (x:Int) 16777216).toNat=_ from c1];rw[vZ _ _ L,show(pB (x:Int) 65536).toNat=_ from c2];rw[vZ _ _ L,show(pB (x:Int) 256).toNat=_ from c3];rw[vZ _ _ L,show(pB (x:Int) 1).toNat=_ from c4];congr 1;omega
theorem Wq(s:B):∃c:Nat,c<4294967296/\rE s=(c:Int):=by
 unfold rE nU w32;refine⟨(BitVec.ofInt 32 4294967295^^^BitVec.ofInt 32 (DI (w256 zL) s s.length)).toNat,BitVec.isLt _,?_⟩;have h:=(BitVec.ofInt 32 4294967295^^^BitVec.ofInt 32 (DI (w256 zL) s s.length)).isLt;generalize (BitVec.ofInt 32 4294967295^^^BitVec.ofInt 32 (DI (w256 zL) s s.length)).toNat=c at h;simp only[IntKind.wrap,IntKind.bits,IntKind.signed];simp;omega
theorem SP{b:B}{a:Nat}{r:B}(h:s.drop a=dX (IntKind.i64.wrap (rE b))++r):yO s a false 4=(IntKind.i64.wrap (rE b),a+4,false):=by
 obtain⟨c,J,e⟩:=Wq b;have e1:=HG h;have hl:(dX (IntKind.i64.wrap (rE b))).length=4:=rfl;rw[hl]at e1;unfold yO;rw[show(Int.ofNat 4)=((4:Nat):Int)from rfl,e1];simp only;rw[e,l8 L,PA c J]
theorem NG{k:Nat}{r:B}(hk:k<256)(h:s.drop a=pX (k:Int)++r):yO s a false 1=((k:Int),a+1,false):=by
 have e1:=HG h;have hl:(pX (k:Int)).length=1:=rfl;rw[hl]at e1;unfold yO;rw[show(Int.ofNat 1)=((1:Nat):Int)from rfl,e1];have e2:=vZ 0 (pB (k:Int) 1) L;rw[show((0:Nat):Int)=0 from rfl]at e2;have c1:=DU k 1 L;unfold pX;simp only[List.foldl_cons,List.foldl_nil,e2];rw[show(pB (k:Int) 1).toNat=_ from c1];congr 2;omega
end
abbrev P3:V:=.ptr (some (3,0))
abbrev eM:V:=.dx none 0 0 0
def hJ(d:B)(p:gx):H rs:=(dN p).set 7 (some (.cells [.str d]))
def iW(i:Nat):V:=.int .i64 (Int.ofNat i)
theorem oQ{x:Int}{n:Nat}(h:x=(n:Int))(hb:n<1000000000000):V.int aj (IntKind.i64.wrap x)=iW n:=fP h hb
theorem Zu:16<Tryz.prog.funcs.size:=ax U
theorem agU:17<Tryz.prog.funcs.size:=ax U
theorem agV:18<Tryz.prog.funcs.size:=ax U
noncomputable abbrev ab4:Code:=dS (dw 2 abU)
noncomputable abbrev ab5:Code:=dU (dw 2 abU)
noncomputable abbrev ab6:Code:=Y1 (dU SC)
section
variable(T A:Nat)(b:B)(F R D:Int)[eB](C N:ae)
section
variable(s:B)(a:Nat)(f:Bool)
def Mc(agW:af):H rs:=K (fM (pS T A b F R D C N)++(7,.cells (HD s a f))::agW)
def sA0(d:B)(n i:Nat):St:=eL [(0,P3),(4,.ptr (some (7,0))),(5,.str d),(6,eM),(17,.int .i64 (Int.ofNat n)),(18,.int .i64 (Int.ofNat i))] (Mc T A b F R D C N s a f []) 8
def sA1(d:B)(n i k:Nat)(Q:ai):St:=eL [(0,P3),(4,.ptr (some (7,0))),(5,.str d),(6,.dx (some (8,0)) k k 1),(17,.int .i64 (Int.ofNat n)),(18,.int .i64 (Int.ofNat i))] (Mc T A b F R D C N s a f [(8,.deep Q)]) 9
end
end
theorem agY(T A:Nat)(b:B)(F R D:Int)[eB](C N:ae)(s:B):dc mE [] 7 Tryz.f83 [0,4,11] (eU 2 We) (cZ [P3,.str s] (dN (pS T A b F R D C N)) 7) [([],[(0:Int)<=(0:Int)/\0<=s.length,s.length<=1000000000,(0:Int)<=(1:Int)/\1<=8],eP (eL [(0,.ptr (some (3,0))),(4,.ptr (some (7,0))),(11,.int .i64 ((yO s 0 false 1).1))] (K (fM (pS T A b F R D C N)++[(7,.cells [.str s,.int .i64 (Int.ofNat (yO s 0 false 1).2.1),.bool ((yO s 0 false 1).2.2)])])) 8))]:=cT.ef
section
variable(T A:Nat)(b:B)(F R D:Int)
theorem agZ[eB](C N:ae)(s:B)(a:Nat)(f:Bool)(k:Int):dc mE [(12,.split)] 7 Tryz.f83 [0,4,11,12] (dS SC) (eL [(0,P3),(4,.ptr (some (7,0))),(11,.int .i64 k)] (Mc T A b F R D C N s a f []) 8) (iU (k==(1:Int)) ([],eP (eL [(0,.ptr (some (3,0))),(4,.ptr (some (7,0))),(11,.int .i64 k),(12,.bool true)] (K (fM (pS T A b F R D C N)++[(7,.cells [.str s,.int .i64 (Int.ofNat a),.bool f])])) 8)) ([],eP (eL [(0,.ptr (some (3,0))),(4,.ptr (some (7,0))),(11,.int .i64 k),(12,.bool false)] (K (fM (pS T A b F R D C N)++[(7,.cells [.str s,.int .i64 (Int.ofNat a),.bool f])])) 8))):=cT.ef
theorem anC[eB](C N:ae)(s:B)(a:Nat)(f:Bool):dc mE [] 7 Tryz.f83 [0,4,5,6] (eU 2 abU) (eL [(0,P3),(4,.ptr (some (7,0)))] (Mc T A b F R D C N s a f []) 8) [([],[(0:Int)<=Int.ofNat a/\a<=s.length,s.length<=1000000000],eP (eL [(0,.ptr (some (3,0))),(4,.ptr (some (7,0))),(5,.str ((iA s a f).1)),(6,.dx none 0 0 0)] (K (fM (pS T A b F R D C N)++[(7,.cells [.str s,.int .i64 (Int.ofNat (iA s a f).2.1),.bool ((iA s a f).2.2)])])) 8))]:=cT.ef
theorem anD[eB](C N:ae)(s:B)(a:Nat)(f:Bool)(d:B):dc mE [(18,.di (.int .i64 (Int.ofNat 0)))] 7 Tryz.f83 [0,4,5,6,17,18] (dS ab4) (eL [(0,P3),(4,.ptr (some (7,0))),(5,.str d),(6,eM)] (Mc T A b F R D C N s a f []) 8) [([],[(0:Int)<=Int.ofNat a/\a<=s.length,s.length<=1000000000,V.int aj (0:Int)=V.int aj (0:Int)],eP (eL [(0,.ptr (some (3,0))),(4,.ptr (some (7,0))),(5,.str d),(6,.dx none 0 0 0),(17,.int .i64 ((ji s a f).1)),(18,.int .i64 0)] (K (fM (pS T A b F R D C N)++[(7,.cells [.str s,.int .i64 (Int.ofNat (ji s a f).2.1),.bool ((ji s a f).2.2)])])) 8))]:=cT.ef
theorem ag0[eB](C N:ae)(s:B)(a:Nat)(f:Bool)(d:B)(n i:Nat):dc mE [(19,.split),(25,.di (.int .i64 (Int.ofNat (i+1))))] 7 Tryz.f83 [0,4,5,6,17,18] (dD (dD (dU ab4))) (sA0 T A b F R D C N s a f d n i) (iU (decide (Int.ofNat i<Int.ofNat n)) ([(0:Int)<=Int.ofNat a/\a<=s.length,s.length<=1000000000,lA (Int.ofNat i+(1:Int)) (i+1)],eP (eL [(0,.ptr (some (3,0))),(4,.ptr (some (7,0))),(5,.str d),(6,.dx (some (8,0)) 1 1 1),(17,.int .i64 (Int.ofNat n)),(18,.int .i64 (Int.ofNat (i+1)))] (K (fM (pS T A b F R D C N)++[(7,.cells [.str s,.int .i64 (Int.ofNat (rM s a f (32:Int)).2.1),.bool ((rM s a f (32:Int)).2.2)]),(8,.cells [.str ((rM s a f (32:Int)).1)])])) 9)) ([],.to (.exit 1) (eL [(0,.ptr (some (3,0))),(4,.ptr (some (7,0))),(5,.str d),(6,.dx none 0 0 0),(17,.int .i64 (Int.ofNat n)),(18,.int .i64 (Int.ofNat i))] (K (fM (pS T A b F R D C N)++[(7,.cells [.str s,.int .i64 (Int.ofNat a),.bool f])])) 8))):=cT.ef
theorem ag1[eB](C N:ae)(s:B)(a:Nat)(f:Bool)(d:B)(n i k:Nat)(Q:ai):dc mE [(19,.split),(25,.di (.int .i64 (Int.ofNat (i+1))))] 7 Tryz.f83 [0,4,5,6,17,18] (dD (dD (dU ab4))) (sA1 T A b F R D C N s a f d n i k Q) (iU (decide (Int.ofNat i<Int.ofNat n)) ([(0:Int)<=Int.ofNat a/\a<=s.length,s.length<=1000000000,0+k*1<=Q.length,0<1,fa (k+1) 1 16=true,lA (Int.ofNat i+(1:Int)) (i+1)],eP (eL [(0,.ptr (some (3,0))),(4,.ptr (some (7,0))),(5,.str d),(6,.dx (some (8,0)) (k+1) (k+1) 1),(17,.int .i64 (Int.ofNat n)),(18,.int .i64 (Int.ofNat (i+1)))] (K (fM (pS T A b F R D C N)++[(7,.cells [.str s,.int .i64 (Int.ofNat (rM s a f (32:Int)).2.1),.bool ((rM s a f (32:Int)).2.2)]),(8,.deep (List.take (k*1) (List.drop 0 Q)++[lf.str (rM s a f (32:Int)).1]))])) 9)) ([],.to (.exit 1) (eL [(0,.ptr (some (3,0))),(4,.ptr (some (7,0))),(5,.str d),(6,.dx (some (8,0)) k k 1),(17,.int .i64 (Int.ofNat n)),(18,.int .i64 (Int.ofNat i))] (K (fM (pS T A b F R D C N)++[(7,.cells [.str s,.int .i64 (Int.ofNat a),.bool f]),(8,.deep Q)])) 9))):=cT.ef
theorem anE[eB](C N:ae)(d:B):vX ak mE [] 1000 7 Tryz.f83 (ab5) (eL [(0,P3),(5,.str d),(6,eM)] (dN (pS T A b F R D C N)) 7)
  [([],
   [(gS=gS),(gR=gR),([]=strs (dI [])),(0=0),(0<=1000000),((eJ (d::dI [])).length<=1000000000)],
   .ret (.ew []) (dN (pS T A b F (IntKind.i64.wrap (R+(1:Int))) D (iK (lf.str (dL d (dI []))) (lf.agg [lf.str d,lf.dV 0 [],lf.int aj R]) C) N)) 7)]
 :=⟨U,U,U⟩
theorem anF[eB](C N:ae)(d:B)(n:Nat)(Q:ai):vX ak mE [] 1000 7 Tryz.f83 (ab5) (eL [(0,P3),(5,.str d),(6,.dV false n Q)] (dN (pS T A b F R D C N)) 7)
  [([],
   [(gS=gS),(gR=gR),(Q=strs (dI Q)),(n=(dI Q).length),(n<=1000000),((eJ (d::dI Q)).length<=1000000000),(0<n),(Q.length=n),(n<=1000000)],
   .ret (.ew []) (dN (pS T A b F (IntKind.i64.wrap (R+(1:Int))) D (iK (lf.str (dL d (dI Q))) (lf.agg [lf.str d,lf.dV n Q,lf.int aj R]) C) N)) 7)]
 :=⟨U,U,U⟩
theorem anG[eB](C N:ae)(s:B)(a:Nat)(f:Bool):dc mE [] 7 Tryz.f83 [0,4,33] (dS ab6) (eL [(0,P3),(4,.ptr (some (7,0))),(11,.int .i64 2)] (Mc T A b F R D C N s a f []) 8) [([],[],eP (eL [(0,.ptr (some (3,0))),(4,.ptr (some (7,0))),(33,.bool true)] (K (fM (pS T A b F R D C N)++[(7,.cells [.str s,.int .i64 (Int.ofNat a),.bool f])])) 8))]:=cT.ef
theorem ag2[eB](C N:ae)(s:B)(a:Nat)(f:Bool):dc mE [] 7 Tryz.f83 [0,4,7] (dS (Na (dU ab6))) (eL [(0,P3),(4,.ptr (some (7,0)))] (Mc T A b F R D C N s a f []) 8) [([],[(0:Int)<=Int.ofNat a/\a<=s.length,s.length<=1000000000],eP (eL [(0,.ptr (some (3,0))),(4,.ptr (some (7,0))),(7,.str ((iA s a f).1))] (K (fM (pS T A b F R D C N)++[(7,.cells [.str s,.int .i64 (Int.ofNat (iA s a f).2.1),.bool ((iA s a f).2.2)])])) 8))]:=cT.ef
noncomputable abbrev ag3:e9:=gL ak W19 (rF [(50,[(7,.split)])]) 1000 40
noncomputable abbrev anH:CX ak:=CX.of mo po HE (rF [(50,[(7,.split)])]) 1000 40
theorem ag4[eB](C N:ae)(s n:B)(a:Nat)(f:Bool):vX ak ag3 [] 1000 7 Tryz.f83 (dU (Na (dU ab6))) (eL [(0,P3),(4,.ptr (some (7,0))),(7,.str n)] (Mc T A b F R D C N s a f []) 8)
  [([((eI (iA s a f).1 ([]:B)),true)],
   [((0:Int)<=Int.ofNat a/\a<=s.length),(s.length<=1000000000)],
   .ret (.ew []) (dN (pS T A b F R D C (mh (lf.str n) N))) 7),
  ([((eI (iA s a f).1 ([]:B)),false)],
   [((0:Int)<=Int.ofNat a/\a<=s.length),(s.length<=1000000000)],
   .ret (.ew []) (dN (pS T A b F R D C (iK (lf.str n) (lf.str (iA s a f).1) N))) 7)]
 :=⟨U,U,U⟩
end
theorem rI{α:Type}{s p r:List α}{a:Nat}(h:s.drop a=p++r):s.drop (a+p.length)=r:=by rw[<- List.drop_drop,h,List.drop_left'];rfl
section
variable(T A:Nat)(b:B)(F R D:Int)[eB](C N:ae)
theorem Wr(d:B)(O:List (B))(hd:d.length<=65536)(hn:O.length<=1024)(h32:∀x∈O,x.length=32):
  c5 ak 83 [P3,.str (vV d O.length++O.flatten)] (dN (pS T A b F R D C N)) 7 (.ew []) (dN (pS T A b F (IntKind.i64.wrap (R+1)) D (iK (.str (dL d O)) (tf d O R) C) N)) 7:=by
 have RA:=tg h32;have hhl:=wX d O.length;obtain⟨s,hs⟩:∃s,s=vV d O.length++O.flatten:=⟨_,rfl⟩;rw[<- hs];have hsl:s.length<=1000000:=by rw[hs,ay];omega
 have d0:s.drop 0=pX ((1:Nat):Int)++(jH d++(jE (Int.ofNat O.length)++O.flatten)):=by
  rw[hs,bw];unfold vV;simp only[bA];rfl
 have d1:=rI d0;rw[show 0+(pX ((1:Nat):Int)).length=1 from rfl]at d1;have d2:=rI d1;have d3:=rI d2;have r1:=NG dP d0;have r2:=zT L d1;have r3:=HF L d2;have hv:=mN (Int.ofNat O.length);have l3:1+(jH d).length+(jE (Int.ofNat O.length)).length+O.flatten.length=s.length:=by
  have e:=aL List.length d0;simp only[ay,bw]at e;rw[show(pX ((1:Nat):Int)).length=1 from rfl]at e;omega
 rw[show 1+(jH d).length=(jH d).length+1 by omega]at *;refine c7 Tryz.func83 (code:=We) U U ?_;obtain⟨L1,B8⟩:=agY T A b F R D C N s;rw[r1]at B8;refine nP 2 uW mo U B8 (G ⟨dP,L⟩ (G L (eS ⟨dP,dP⟩))) ?_;refine fk (i:=0) U ?_;refine fB (Q1:=fL ak 7 Tryz.f83 fun v h n=>v= .ew []/\h=dN (pS T A b F (IntKind.i64.wrap (R+1)) D (iK (.str (dL d O)) (tf d O R) C) N)/\n=7) ?_ fun y s h=>DL h;show TG ak 7 Tryz.f83.ntmps SC (eL [(0,P3),(4,.ptr (some (7,0))),(11,.int .i64 1)] (Mc T A b F R D C N s 1 false []) 8) _;refine c6 U ?_;refine fV uW (agZ T A b F R D C N s 1 false 1) fun g hg J=>?_;simp only[aD,aN,br]at hg;rcases hg with rfl|rfl
 case inr=>exact absurd (J _ (au.2 rfl)) dP
 refine⟨cW,fun s' ek=>dh ek ?_⟩;refine Hi (t:=true) U U (fun _=>?_) (fun h=>by cases h);refine dh (live:=[0,4]) (s2:=eL [(0,P3),(4,.ptr (some (7,0)))] (Mc T A b F R D C N s 1 false []) 8) U ?_;obtain⟨L3,yw⟩:=anC T A b F R D C N s 1 false;rw[r2]at yw;refine nP 2 uW mo U yw (G ⟨dP,L⟩ (eS L)) ?_;refine c6 U ?_;refine c6 U ?_;have r3f:ji s ((jH d).length+1) false=_:=r3;obtain⟨L4,Cd⟩:=anD T A b F R D C N s ((jH d).length+1) false d;rw[r3f]at Cd;refine gP uW mo oL U Cd (dG ?_);refine⟨G ⟨aA _,L⟩ (G L (eS rfl)),fun s' ek=>?_⟩;obtain⟨a,ha⟩:∃a,a=(jH d).length+1+(jE (Int.ofNat O.length)).length:=⟨_,rfl⟩;rw[<- ha]at ek d3 l3;have mT:∀i,i<=O.length->s.drop (a+32*i)=(O.drop i).flatten:=by
  intro i
  induction i with
  |zero=>intro _;simpa using d3
  |succ i ih=>
   intro hi;have ih:=ih L;rw[bJ (l:=O) L,List.flatten_cons]at ih;have h2:=rI ih;rw[h32 _ (b9 _)]at h2;rw[show a+32*(i+1)=a+32*i+32 by omega];exact h2
 have htk:∀i (hi:i<O.length),rM s (a+32*i) false (32:Int)=(O[i],a+32*i+32,false):=by
  intro i hi;have X:=mT i L;rw[bJ hi,List.flatten_cons]at X;have h2:=HG X;rw[h32 _ (b9 _)]at h2;exact h2
 have kR:∀i,i<=O.length->a+32*i<=s.length:=fun i hi=>by omega
 let fr:Nat->St:=fun i=>match i with
  |0=>sA0 T A b F R D C N s a false d O.length 0
  |i+1=>sA1 T A b F R D C N s (a+32*(i+1)) false d O.length (i+1) (i+1) (strs (O.take (i+1)))
 have tail:∀s',gI ak 7 Tryz.f83.ntmps s' (fr O.length)->TG ak 7 Tryz.f83.ntmps ab5 s' (fL ak 7 Tryz.f83 fun v h n=>v= .ew []/\h=dN (pS T A b F (IntKind.i64.wrap (R+1)) D (iK (.str (dL d O)) (tf d O R) C) N)/\n=7):=by
  intro s' ek;refine ek _ _ ?_;have hj:=gZ d O h32;rcases Nat.eq_zero_or_pos O.length with h0|h0
  . have:O=[]:=List.eq_nil_of_length_eq_zero h0;subst this;refine dh (live:=[0,5,6]) (s2:=eL [(0,P3),(5,.str d),(6,eM)] (dN (pS T A b F R D C N)) 7) U ?_;refine sB uW mo _ U (anE T A b F R D C N d) (dG ?_);refine⟨G rfl (G rfl (G rfl (G rfl (G dP (eS ?_))))),_,_,_,rfl,rfl,rfl,rfl⟩;show(eJ [d]).length<=_;simp only[bP]at hj;omega
  . have hS:fr O.length=sA1 T A b F R D C N s (a+32*O.length) false d O.length O.length O.length (strs O):=by
     obtain⟨k,hk⟩:∃k,O.length=k+1:=⟨O.length-1,L⟩;show(match O.length with|0=>_|i+1=>_)=_;have e:O.take (k+1)=O:=by rw[<- hk,aU]
     rw[hk];simp only[e]
    rw[hS];refine Dy [8] (cU:=[(strs O).length=O.length*1]) (s2:={ eL [(0,P3),(4,.ptr (some (7,0))),(5,.str d),(6,.dV false O.length (strs O)),(17,.int .i64 (Int.ofNat O.length)),(18,.int .i64 (Int.ofNat O.length))] (Mc T A b F R D C N s (a+32*O.length) false [(8,.deep (strs O))]) 9 with h:=(Mc T A b F R D C N s (a+32*O.length) false [(8,.deep (strs O))]).set 8 none }) U (eS (by rw[eN,bn])) ?_;refine dh (live:=[0,5,6]) (s2:=eL [(0,P3),(5,.str d),(6,.dV false O.length (strs O))] (dN (pS T A b F R D C N)) 7) U ?_;have hr:=anF T A b F R D C N d O.length (strs O);rw[iu]at hr;refine sB uW mo _ U hr (dG ?_);exact⟨G rfl (G rfl (G rfl (G rfl (G L (G L (G h0 (G (eN O) (eS L)))))))),_,_,_,rfl,rfl,rfl,rfl⟩
 refine ju 1 O.length fr U U (.norm ek) (fun i hi=>?_) ?_
 . have ht:=htk i hi;cases i with
   |zero=>
    obtain⟨L5,yl⟩:=ag0 T A b F R D C N s a false d O.length 0;rw[show a+32*0=a by omega]at ht;rw[ht]at yl;refine gP uW mo oL U yl fun g hg J=>?_;simp only[aD,aN,br]at hg;rcases hg with rfl|rfl
    case inr=>exact absurd (aK (J _ (au.2 rfl))) dr
    refine⟨G ⟨aA _,L⟩ (G L (eS (fP dr L))),fun s' ek=>?_⟩;have e:O.take 1=[O[0]]:=by
     rw[bH,az hi];rfl
    refine(gI.norm ek).trans ?_;show gI _ _ _ _ (sA1 T A b F R D C N s (a+32*1) false d O.length 1 1 (strs (O.take 1)));rw[e];exact .deep [8] U
   |succ i=>
    obtain⟨L5,yl⟩:=ag1 T A b F R D C N s (a+32*(i+1)) false d O.length (i+1) (i+1) (strs (O.take (i+1)));rw[ht]at yl;refine gP uW mo oL U yl fun g hg J=>?_;simp only[aD,aN,br]at hg;rcases hg with rfl|rfl
    case inr=>exact absurd (aK (J _ (au.2 rfl))) dr
    have hl:(strs (O.take (i+1))).length=i+1:=by rw[eN,aY];omega
    refine⟨G ⟨aA _,kR _ L⟩ (G L (G L (G dP (G (qu L) (eS (fP dr L)))))),fun s' ek=>?_⟩;have e:List.take ((i+1)*1) (List.drop 0 (strs (O.take (i+1))))++[lf.str O[i+1]]=strs (O.take (i+1+1)):=by
     rw[bw,bn,bk L];rw[bH (i:=i+1),az hi];unfold strs;rw[aZ];rfl
    rw[e]at ek;exact .norm ek
 . rcases Nat.eq_zero_or_pos O.length with h0|h0
   . have X:fr O.length=sA0 T A b F R D C N s a false d O.length 0:=by
      show(match O.length with|0=>_|i+1=>_)=_;rw[h0]
     rw[X]at tail ⊢;refine fV uW (ag0 T A b F R D C N s a false d O.length 0) fun g hg J=>?_;simp only[aD,aN,br]at hg;rcases hg with rfl|rfl
     . exact absurd (aI (J _ (au.2 rfl))) dr
     . exact⟨cW,fun s' ek=>⟨by simp,by simp only[dY,andThen];exact tail s' (.norm ek)⟩⟩
   . have X:fr O.length=sA1 T A b F R D C N s (a+32*O.length) false d O.length O.length O.length (strs O):=by
      obtain⟨k,hk⟩:∃k,O.length=k+1:=⟨O.length-1,L⟩;show(match O.length with|0=>_|i+1=>_)=_;have e:O.take (k+1)=O:=by rw[<- hk,aU]
      rw[hk];simp only[e]
     rw[X]at tail ⊢;refine fV uW (ag1 T A b F R D C N s (a+32*O.length) false d O.length O.length O.length (strs O)) fun g hg J=>?_;simp only[aD,aN,br]at hg;rcases hg with rfl|rfl
     . exact absurd (aI (J _ (au.2 rfl))) L
     . exact⟨cW,fun s' ek=>⟨by simp,by simp only[dY,andThen];exact tail s' (.norm ek)⟩⟩
theorem Ws(n dd:B)(hn:n.length<=1000000)(hd:dd.length<=1000000):
  c5 ak 83 [P3,.str (pX 2++jH n++jH dd)] (dN (pS T A b F R D C N)) 7 (.ew []) (dN (pS T A b F R D C (if dd=[]then mh (.str n) N else iK (.str n) (.str dd) N))) 7:=by
 obtain⟨s,hs⟩:∃s,s=pX 2++jH n++jH dd:=⟨_,rfl⟩;rw[<- hs];have t1:=pH n;have t2:=pH dd;have hsl:s.length<=3000000:=by
  rw[hs,ay,ay,show(pX 2).length=1 from rfl];omega
 have d0:s.drop 0=pX ((2:Nat):Int)++(jH n++(jH dd++[])):=by
  rw[hs,bw];simp only[bA,cu];rfl
 have d1:=rI d0;rw[show 0+(pX ((2:Nat):Int)).length=1 from rfl]at d1;have d2:=rI d1;have r1:=NG dP d0;have r2:=zT L d1;have r3:=zT L d2;have l3:1+(jH n).length+(jH dd).length=s.length:=by
  have e:=aL List.length d0;simp only[ay,bw,bP]at e;rw[show(pX ((2:Nat):Int)).length=1 from rfl]at e;omega
 refine c7 Tryz.func83 (code:=We) U U ?_;obtain⟨L1,B8⟩:=agY T A b F R D C N s;rw[r1]at B8;refine nP 2 uW mo U B8 (G ⟨dP,L⟩ (G L (eS ⟨dP,dP⟩))) ?_;refine fk (i:=0) U ?_;refine fB (Q1:=fL ak 7 Tryz.f83 fun v h k=>v= .ew []/\h=dN (pS T A b F R D C (if dd=[]then mh (.str n) N else iK (.str n) (.str dd) N))/\k=7) ?_ fun y s h=>DL h;show TG ak 7 Tryz.f83.ntmps SC (eL [(0,P3),(4,.ptr (some (7,0))),(11,.int .i64 2)] (Mc T A b F R D C N s 1 false []) 8) _;refine c6 U ?_;refine fV uW (agZ T A b F R D C N s 1 false 2) fun g hg J=>?_;simp only[aD,aN,br]at hg;rcases hg with rfl|rfl
 . exact absurd (J _ (au.2 rfl)) dP
 refine⟨cW,fun s' ek=>dh ek ?_⟩;refine Hi (t:=false) U U (fun h=>by cases h) (fun _=>?_);refine dh (live:=[0,4,11]) (s2:=eL [(0,P3),(4,.ptr (some (7,0))),(11,.int .i64 2)] (Mc T A b F R D C N s 1 false []) 8) U ?_;refine c6 U ?_;refine fV uW (anG T A b F R D C N s 1 false) (dG ?_);refine⟨cW,fun s' ek=>dh ek ?_⟩;refine Hi (t:=true) U U (fun _=>?_) (fun h=>by cases h);refine dh (live:=[0,4]) (s2:=eL [(0,P3),(4,.ptr (some (7,0)))] (Mc T A b F R D C N s 1 false []) 8) U ?_;refine c6 U ?_;obtain⟨L4,Cd⟩:=ag2 T A b F R D C N s 1 false;rw[r2]at Cd;refine gP uW mo oL U Cd (dG ?_);refine⟨G ⟨dP,L⟩ (eS L),fun s' ek=>?_⟩;have yl:=ag4 T A b F R D C N s n (1+(jH n).length) false;rw[r3]at yl;refine dh ek ?_;refine sB anH mo _ U yl fun g hg J=>?_;simp only[aD,aN,br]at hg;have cU:∀p∈[((0:Int)<=Int.ofNat (1+(jH n).length)/\1+(jH n).length<=s.length),(s.length<=1000000000)],p:=G ⟨aA _,L⟩ (eS L);have hb:eI dd []=decide (dd=[]):=by
  rw[gr];cases dd<;>rfl
 rcases hg with rfl|rfl
 all_goals
  have q:=J _ (au.2 rfl);have q:eI dd []=_:=q;rw[hb]at q;refine⟨cU,_,_,_,rfl,rfl,?_,rfl⟩
 . rw[aF (aI q)]
 . rw[aJ (aK q)]
end
noncomputable abbrev ab7:Code:=dO Tryz.f103
noncomputable abbrev anI:Code:=dw 1 ab7
noncomputable abbrev ab8:Code:=dD (dD anI)
section
variable(T A:Nat)(b:B)(F D:Int)[eB](C N:ae)(lg:B)
def sRw:St:=eL [(1,.ptr (some (9,0))),(2,.ptr (some (10,0))),(12,v103)] (K (lRv T A b F D C N 0 [] [] 0++[(11,.cells [.str lg])])) 12
noncomputable def oRw:rs:=.loop true none (sRw T A b F D C N lg).S [13,14] agw agx
noncomputable def PB(R:Int)(nw nA:ae)(en:Int):H rs:=K (lRv T A b F D C N R nw nA en++[(11,.cells [.str lg]),(12,.nf),(13,oRw T A b F D C N lg)])
noncomputable def mRc(R:Int)(nw nA:ae)(en:Int)(a:Nat)(f:Bool):H rs:=K (lRv T A b F D C N R nw nA en++[(11,.cells [.str lg]),(12,.nf),(13,oRw T A b F D C N lg),(14,.cells (HD lg a f))])
noncomputable def Qt(R:Int)(nw nA:ae)(en:Int)(a:Nat)(f:Bool):St:=eL [(0,.fn (.yield 13) [] []),(3,.ptr (some (14,0)))] (mRc T A b F D C N lg R nw nA en a f) 15
end
noncomputable abbrev anK(args:ag)(h:H rs)(n:Nat)(v:V)(X:H rs)(n1:Nat):e9:=gL ak (Wa 83 args h n v X n1 W19) H0 1000 40
theorem anL(T A:Nat)(b:B)(F D:Int)[eB](C N:ae)(lg:B):dc mE [] 14 Tryz.f103 [0,3] (eU 1 ab7) (cZ [.fn (.yield 13) [] [],.ptr (some (11,0))] (PB T A b F D C N lg 0 [] [] 0) 14) [([],[],eP (Qt T A b F D C N lg 0 [] [] 0 0 false))]:=cT.ef
section
variable(T A:Nat)(b:B)(F D:Int)[eB](C N:ae)(lg:B)
noncomputable def mRd(R:Int)(nw nA:ae)(en:Int)(a:Nat):H rs:=(mRc T A b F D C N lg R nw nA en a false).set 13 none
noncomputable def sRe(R:Int)(nw nA:ae)(en:Int)(t:B)(k:Int)(a:Nat)(f:Bool):St:=eL [(0,.fn (.yield 13) [] []),(3,.ptr (some (14,0))),(4,.str t),(5,.int .i64 k)] (mRc T A b F D C N lg R nw nA en a f) 15
end
noncomputable abbrev ab9:Code:=dD (dU ab8)
section
variable(T A:Nat)(b:B)(F D:Int)
theorem anN[eB](C N:ae)(lg:B)(R:Int)(nw nA:ae)(en:Int)(a:Nat):dc mE [(10,.split)] 14 Tryz.f103 [0,3] (dS ab8) (Qt T A b F D C N lg R nw nA en a false) (iU (decide (IntKind.i64.wrap ((Int.ofNat lg.length)-Int.ofNat a)>(0:Int))) ([],eP (Qt T A b F D C N lg R nw nA en a false)) ([],.to (.exit 0) (Qt T A b F D C N lg R nw nA en a false))):=cT.ef
theorem anO[eB](C N:ae)(lg:B)(R:Int)(nw nA:ae)(en:Int)(a:Nat):dc mE [] 14 Tryz.f103 [0,3,4,5] (eU 2 ab9) (Qt T A b F D C N lg R nw nA en a false) [([],[(0:Int)<=Int.ofNat a/\a<=lg.length,lg.length<=1000000000,(0:Int)<=Int.ofNat (iA lg a false).2.1/\(Int.ofNat (iA lg a false).2.1).toNat<=lg.length,lg.length<=1000000000,(0:Int)<=(4:Int)/\4<=8],eP (sRe T A b F D C N lg R nw nA en (iA lg a false).1 (yO lg (iA lg a false).2.1 (iA lg a false).2.2 4).1 (yO lg (iA lg a false).2.1 (iA lg a false).2.2 4).2.1 (yO lg (iA lg a false).2.1 (iA lg a false).2.2 4).2.2))]:=cT.ef
theorem anP[eB](C N:ae)(lg:B)(R:Int)(nw nA:ae)(en:Int)(t:B)(k:Int)(a:Nat)(nx2:Int)(xx rt2:ae):dc (anK [P3,.str t] (mRd T A b F D C N lg R nw nA en a) 15 (.ew []) (mRd T A b F D C N lg nx2 xx rt2 en a) 15) [(24,.di (.bool false))] 14 Tryz.f103 [0,3] (dw 2 ab9) (sRe T A b F D C N lg R nw nA en t k a false) [([],[t.length<1000000000,jC (k !=IntKind.i64.wrap (rE t)),fC [.ptr (some (3,0)),.str t] (mRd T A b F D C N lg R nw nA en a) 15],eP (Qt T A b F D C N lg nx2 xx rt2 (Int.ofNat a) a false))]:=cT.ef
--@ avo (T A:Nat) (b:B) (F D:Int) [eB] (C N:ae) (lg:B) (R:Int) (nw nA:ae) (en:Int) (t:B) (k:Int) (a:Nat) (f:Bool)|mE | [(17,.split),(24,.di (.bool true))]|14|Tryz.f103 | []|dw 2 ab9|sRe T A b F D C N lg R nw nA en t k a f | [agw,agx] | | | PB T A b F D C N lg R nw nA en ;;PB T A b F D C N lg R nw nA en
abbrev SQ(lg:B)(a:Nat):Prop:=(0:Int)<=Int.ofNat (iA lg a false).2.1/\(Int.ofNat (iA lg a false).2.1).toNat<=lg.length
theorem anQ[eB](C N:ae)(lg:B)(R:Int)(nw nA:ae)(en:Int)(a:Nat):∃be,zP ak mE [(10,.split),(17,.split),(24,.di (.bool true))] 1000 14 Tryz.f103 [0,3] 0 (ab8) (Qt T A b F D C N lg R nw nA en a false) be
  [([((decide (IntKind.i64.wrap ((Int.ofNat lg.length)-Int.ofNat a)>(0:Int))),true),(((yO lg (Int.ofNat (iA lg a false).2.1).toNat (iA lg a false).2.2 4).2.2),true)],
   [((0:Int)<=Int.ofNat a/\a<=lg.length),(lg.length<=1000000000),SQ lg a,(lg.length<=1000000000),((0:Int)<=(4:Int)/\4<=8),(V.bool true=V.bool true)],
   .ret (.ew []) (PB T A b F D C N lg R nw nA en) 14),
  ([((decide (IntKind.i64.wrap ((Int.ofNat lg.length)-Int.ofNat a)>(0:Int))),true),(((yO lg (Int.ofNat (iA lg a false).2.1).toNat (iA lg a false).2.2 4).2.2),false)],
   [((0:Int)<=Int.ofNat a/\a<=lg.length),(lg.length<=1000000000),SQ lg a,(lg.length<=1000000000),((0:Int)<=(4:Int)/\4<=8),((iA lg a false).1.length<1000000000),(V.bool ((yO lg (Int.ofNat (iA lg a false).2.1).toNat (iA lg a false).2.2 4).1 !=IntKind.i64.wrap (rE (iA lg a false).1))=V.bool true)],
   .ret (.ew []) (PB T A b F D C N lg R nw nA en) 14),
  ([((decide (IntKind.i64.wrap ((Int.ofNat lg.length)-Int.ofNat a)>(0:Int))),false)],
   [],
   .ret (.ew []) (PB T A b F D C N lg R nw nA en) 14)]
 :=zP.of U U U
end
inductive iY where
 |chunk (d:B) (O:List (B))
 |root (n dd:B)
def iY.body:iY->B
 | .chunk d O=>vV d O.length++O.flatten
 | .root n dd=>pX 2++jH n++jH dd
def iY.bytes(r:iY):B:=nV r.body
def iY.ok:iY->Prop
 | .chunk d O=>d.length<=65536/\O.length<=1024/\∀x∈O,x.length=32
 | .root n dd=>n.length<=1000/\dd.length<=1000
theorem iY.DV{r:iY}(h:r.ok):r.body.length<=200000:=by
 cases r with
 |chunk d O=>
  obtain⟨X,h2,h3⟩:=h;have:=wX d O.length;have:=tg h3;simp only[iY.body,ay];omega
 |root n dd=>
  obtain⟨X,h2⟩:=h;have:=pH n;have:=pH dd;simp only[iY.body,ay,show(pX 2).length=1 from rfl];omega
structure LS where
 R:Int
 C:ae
 N:ae
def Cp(s:LS):iY->LS
 | .chunk d O=>⟨IntKind.i64.wrap (s.R+1),iK (.str (dL d O)) (tf d O s.R) s.C,s.N⟩
 | .root n dd=>⟨s.R,s.C,if dd=[]then mh (.str n) s.N else iK (.str n) (.str dd) s.N⟩
def ls0:LS:=⟨0,[],[]⟩
abbrev iD(l:List iY):LS:=l.foldl Cp ls0
def de(l:List iY):B:=(l.map iY.bytes).flatten
theorem acd(T A:Nat)(b:B)(F R D:Int)[eB](C N:ae)(r:iY)(h:r.ok):c5 ak 83 [P3,.str r.body] (dN (pS T A b F R D C N)) 7 (.ew []) (dN (pS T A b F (Cp ⟨R,C,N⟩ r).R D (Cp ⟨R,C,N⟩ r).C (Cp ⟨R,C,N⟩ r).N)) 7:=by
 cases r with
 |chunk d O=>exact Wr T A b F R D C N d O h.1 h.2.1 h.2.2
 |root n dd=>exact Ws T A b F R D C N n dd (by have:=h.1;omega) (by have:=h.2;omega)
def nsR:List (Option Nat):=[some 0,some 1,some 2,some 3,some 4,some 7,some 8]
section
variable(T A:Nat)(b:B)(F D:Int)[eB](C N:ae)(lg:B)
theorem Wt(R:Int)(nw nA:ae)(en:Int)(a:Nat)(r:iY)(h:r.ok):c5 ak 83 [P3,.str r.body] (mRd T A b F D C N lg R nw nA en a) 15 (.ew [])
  (mRd T A b F D C N lg (Cp ⟨R,nw,nA⟩ r).R (Cp ⟨R,nw,nA⟩ r).C (Cp ⟨R,nw,nA⟩ r).N en a) 15:=by
 have J:=acd T A b F R D nw nA r h;generalize Cp ⟨R,nw,nA⟩ r=q at J ⊢;obtain⟨nx2,xx,rt2⟩:=q;generalize r.body=t at J ⊢;have wF:Jw (mRd T A b F D C N lg R nw nA en a) 3=some (nsR,pS T A b F R D nw nA):=by kernel_rfl
 exact gk (ns:=nsR) (Jx wF U U).1 U U J
def Stop(lg:B)(a:Nat):Prop:=a=lg.length\/(yO lg (iA lg a false).2.1 (iA lg a false).2.2 4).2.2=true\/(yO lg (iA lg a false).2.1 (iA lg a false).2.2 4).1≠IntKind.i64.wrap (rE (iA lg a false).1)
omit [eB]in
theorem oS{r:iY}:0<r.bytes.length:=by
 have:=yn r.body;unfold iY.bytes;omega
omit [eB]in
theorem BE{l:List iY}{i:Nat}(h:i<l.length):de (l.take (i+1))=de (l.take i)++(l[i]).bytes:=by
 unfold de;rw[bH,az h,cF,aZ,ct];simp
omit [eB]in
theorem JD{l:List iY}{i:Nat}(h:i<l.length):de (l.drop i)=(l[i]).bytes++de (l.drop (i+1)):=by
 unfold de;rw[bJ h,bX,List.flatten_cons]
omit [eB]in
theorem ux(l:List iY)(i:Nat):de l=de (l.take i)++de (l.drop i):=by
 unfold de;rw[<- ct,<- aZ,cg]
omit [eB]in
theorem SR{l:List iY}{i:Nat}(h:i<l.length):iD (l.take (i+1))=Cp (iD (l.take i)) l[i]:=by
 unfold iD;rw[bH,az h,cF,cR];rfl
omit [eB]in
theorem SS{lg:B}{a:Nat}{r:iY}{x:B}(hr:r.ok)(h:lg.drop a=r.bytes++x):
  iA lg a false=(r.body,a+(jH r.body).length,false)/\yO lg (a+(jH r.body).length) false 4=(IntKind.i64.wrap (rE r.body),a+r.bytes.length,false):=by
 have hl:=iY.DV hr;have X:lg.drop a=jH r.body++(dX (IntKind.i64.wrap (rE r.body))++x):=by
  rw[h];unfold iY.bytes nV;rw[bA]
 refine⟨zT L X,?_⟩;rw[SP (rI X)];unfold iY.bytes nV;rw[ay,cE];rfl
omit [eB]in
theorem SU(s:B)(a:Nat)(f:Bool):(iA s a f).1.length<=s.length:=by
 unfold iA rM;simp only;split
 . simp
 . simp only[aY,b7];omega
theorem SX(l:List iY)(x:B)(hl:∀r∈l,r.ok)(Ib:lg=de l++x)(wF:Stop lg (de l).length)(mA:lg.length<1000000000):
  c5 ak 103 [.fn (.yield 13) [] [],.ptr (some (11,0))] (PB T A b F D C N lg 0 [] [] 0) 14 (.ew []) (PB T A b F D C N lg (iD l).R (iD l).C (iD l).N (Int.ofNat (de l).length)) 14:=by
 refine c7 Tryz.func103 (code:=ab7) U U ?_;refine iw  1 uW (anL T A b F D C N lg) cW ?_
 let fr:Nat->St:=fun i=>Qt T A b F D C N lg (iD (l.take i)).R (iD (l.take i)).C (iD (l.take i)).N (Int.ofNat (de (l.take i)).length) (de (l.take i)).length false
 have mT:∀i,i<=l.length->lg.drop (de (l.take i)).length=de (l.drop i)++x:=by
  intro i hi;have:lg=de (l.take i)++(de (l.drop i)++x):=by rw[Ib,ux l i,bA]
  rw[this,List.drop_left'];rfl
 have kR:∀i,i<=l.length->(de (l.take i)).length+(de (l.drop i)).length+x.length=lg.length:=by
  intro i hi;have X:=aL List.length (mT i hi);have h2:=aL List.length (ux l i);rw[ay]at h2;rw[Ib,ay];omega
 refine ju 0 l.length fr U U .refl (fun i hi=>?_) ?_
 . have iC:=hl _ (b9 hi);have hp:=mT i L;have fH:=kR i L;rw[JD hi]at hp fH;rw[bA]at hp;have Md:=oS (r:=l[i]);obtain⟨q1,q2⟩:=SS iC hp;rw[ay]at fH;have hbo:=iY.DV iC;have yN:(jH (l[i]).body).length<=(l[i]).bytes.length:=by unfold iY.bytes nV;rw[ay];omega
   refine c6 U ?_;refine fV uW (anN T A b F D C N lg (iD (l.take i)).R (iD (l.take i)).C (iD (l.take i)).N (Int.ofNat (de (l.take i)).length) (de (l.take i)).length) fun g hg J=>?_;simp only[aD,aN,br]at hg;have hw:IntKind.i64.wrap ((Int.ofNat lg.length)-Int.ofNat (de (l.take i)).length)=((lg.length-(de (l.take i)).length:Nat):Int):=by
    rw[show(Int.ofNat lg.length)-Int.ofNat (de (l.take i)).length=((lg.length-(de (l.take i)).length:Nat):Int)by rw[jZ,jZ];omega];exact l8 L
   rcases hg with rfl|rfl
   case inr=>exact absurd (aK (J _ (au.2 rfl))) (by rw[hw];omega)
   refine⟨cW,fun s' ek=>dh ek ?_⟩;refine fk (i:=1) U ?_;obtain⟨L3,yw⟩:=anO T A b F D C N lg (iD (l.take i)).R (iD (l.take i)).C (iD (l.take i)).N (Int.ofNat (de (l.take i)).length) (de (l.take i)).length;rw[q1]at yw;have q2':yO lg (l[i].body,(de (l.take i)).length+(jH (l[i]).body).length,false).2.1 (l[i].body,(de (l.take i)).length+(jH (l[i]).body).length,false).2.2 4=_:=q2;rw[q2']at yw;refine nP 2 uW mo U yw (G ⟨aA _,L⟩ (G L (G ⟨aA _,by show(de (l.take i)).length+(jH (l[i]).body).length<=_;omega⟩ (G L (eS ⟨dP,dP⟩))))) ?_;have Re:=Wt T A b F D C N lg (iD (l.take i)).R (iD (l.take i)).C (iD (l.take i)).N (Int.ofNat (de (l.take i)).length) ((de (l.take i)).length+(l[i]).bytes.length) l[i] iC;refine fV (CX.of mo po (Nt (ax U) Re HE) H0 1000 40) (anP T A b F D C N lg (iD (l.take i)).R (iD (l.take i)).C (iD (l.take i)).N (Int.ofNat (de (l.take i)).length) (l[i]).body (IntKind.i64.wrap (rE (l[i]).body)) ((de (l.take i)).length+(l[i]).bytes.length) (Cp (iD (l.take i)) l[i]).R (Cp (iD (l.take i)) l[i]).C (Cp (iD (l.take i)) l[i]).N) (dG ?_);refine⟨G L (G (by simp) (eS ⟨rfl,rfl,rfl⟩)),fun s' ek=>?_⟩;show gI ak 14 Tryz.f103.ntmps s' (fr (i+1));have e1:fr (i+1)=Qt T A b F D C N lg (Cp (iD (l.take i)) l[i]).R (Cp (iD (l.take i)) l[i]).C (Cp (iD (l.take i)) l[i]).N (Int.ofNat ((de (l.take i)).length+(l[i]).bytes.length)) ((de (l.take i)).length+(l[i]).bytes.length) false:=by
    show Qt _ _ _ _ _ _ _ _ _ _ _ _ _ _=_;rw[SR hi,BE hi,ay]
   rw[e1];exact .norm ek
 . have X:fr l.length=Qt T A b F D C N lg (iD l).R (iD l).C (iD l).N (Int.ofNat (de l).length) (de l).length false:=by
    show Qt _ _ _ _ _ _ _ _ _ _ _ _ _ _=_;rw[aU]
   rw[X];have h2:=kR l.length (aC _);rw[aU]at h2;generalize (de l).length=a at *;have x1:=Wo lg a false L;have x2:=SU lg a false;obtain⟨L6,Me⟩:=anQ T A b F D C N lg (iD l).R (iD l).C (iD l).N (Int.ofNat a) a;refine Su 0 uW mo (fun v h n=>v= .ew []/\h=PB T A b F D C N lg (iD l).R (iD l).C (iD l).N (Int.ofNat a)/\n=14) U Me (fun s' ek=>⟨by simp,by rw[dY];exact ek⟩) fun g hg J=>?_;simp only[aD,aN,br]at hg;have q1:(0:Int)<=Int.ofNat a/\a<=lg.length:=⟨aA _,L⟩;have q2:lg.length<=1000000000:=by omega
   have q3:(0:Int)<=Int.ofNat (iA lg a false).2.1/\(Int.ofNat (iA lg a false).2.1).toNat<=lg.length:=⟨aA _,x1⟩;have q4:(0:Int)<=(4:Int)/\4<=8:=⟨dP,dP⟩;have L0:∀s',fL ak 14 Tryz.f103 (fun v h n=>v= .ew []/\h=PB T A b F D C N lg (iD l).R (iD l).C (iD l).N (Int.ofNat a)/\n=14) .ret s'->(Exit.ret≠ .normal/\mK 0 (fL ak 14 Tryz.f103 (fun v h n=>v= .ew []/\h=PB T A b F D C N lg (iD l).R (iD l).C (iD l).N (Int.ofNat a)/\n=14)) .ret s'):=fun s' h=>⟨by simp,h⟩;have hw:IntKind.i64.wrap ((Int.ofNat lg.length)-Int.ofNat a)=((lg.length-a:Nat):Int):=by
    rw[show(Int.ofNat lg.length)-Int.ofNat a=((lg.length-a:Nat):Int)by rw[jZ,jZ];omega];exact l8 L
   rcases hg with rfl|rfl|rfl
   . exact⟨G q1 (G q2 (G q3 (G q2 (G q4 (eS trivial))))),⟨rfl,rfl,rfl⟩,L0⟩
   . have c1:=aI (J _ (aQ ..));have c2:=J _ (aM _ (au.2 rfl));have fS:(yO lg (iA lg a false).2.1 (iA lg a false).2.2 4).1≠IntKind.i64.wrap (rE (iA lg a false).1):=by
      rcases wF with h|h|h
      . rw[hw]at c1;omega
      . have c2:(yO lg (iA lg a false).2.1 (iA lg a false).2.2 4).2.2=false:=c2;rw[h]at c2;cases c2
      . exact h
     exact⟨G q1 (G q2 (G q3 (G q2 (G q4 (G (Nat.lt_of_le_of_lt x2 mA) (eS (aL V.bool (bne_iff_ne.2 fS)))))))),⟨rfl,rfl,rfl⟩,L0⟩
   . exact⟨cW,⟨rfl,rfl,rfl⟩,L0⟩
end
section
variable(T A:Nat)(b:B)(F R D:Int)[eB](C N nw nA:ae)
def hRg(lw:V)(o4:af)(F R:Int):H rs:=K ([(0,.ints .u32 gS),(1,.ints .u32 gR),(3,.cells [lw,.int .i64 F,.map (some 7),.map (some 8),.int .i64 R,.bool false,.bool eB.on,.int .i64 D])]++o4++[(5,.dy none C),(6,.dy none N),(7,.dy none nw),(8,.dy none nA)])
end
section
variable(T A:Nat)(b:B)(F D:Int)
theorem anR[eB](C N:ae)(lg:B):dc mE [(11,.di (.str lg))] 7 Tryz.f57 [1,2,12] (dS (dS Pv)) (eL [(1,.ptr (some (9,0))),(2,.ptr (some (10,0)))] (K (lRv T A b F D C N 0 [] [] 0)) 11) [([],[0+T<=b.length,V.str (List.take T (List.drop 0 b))=V.str lg],eP (sRw T A b F D C N lg))]:=cT.ef
theorem anS[eB](C N:ae)(lg:B)(R:Int)(nw nA:ae)(e:Nat):vX ak mE [] 1000 7 Tryz.f57 (dU Pv) (uq (sRw T A b F D C N lg) (PB T A b F D C N lg R nw nA (Int.ofNat e)) 14)
  [([],
   [((0:Int)<=Int.ofNat e/\Int.ofNat e<=(Int.ofNat A))],
   .ret (.ew []) (hRg D C N nw nA (.dx (some (4,0)) e A 1) [(4,.ia 5 false b)] (Int.ofNat e) R) 9)]
 :=⟨U,U,U⟩
end
section
variable(F R D:Int)[eB](C N:ae)
def lRn(F R:Int):af:=[(0,.ints .u32 gS),(1,.ints .u32 gR),(3,.cells [eM,.int .i64 F,.map (some 7),.map (some 8),.int .i64 R,.bool false,.bool eB.on,.int .i64 D]),(5,.dy none C),(6,.dy none N),(7,.dy none []),(8,.dy none []),(9,.cells [P3]),(10,.cells [.int .i64 0])]
def sRn(F:Int):St:=eL [(1,.ptr (some (9,0))),(2,.ptr (some (10,0)))] (K (lRn D C N F 0)) 11
end
theorem ag5(F R D:Int)[eB](C N:ae):dc mE [] 7 Tryz.f57 [1,2] (eU 3 SE) (cZ [P3] (dN (pN F R D C N)) 7) [([],[],eP (eL [(1,.ptr (some (9,0))),(2,.ptr (some (10,0)))] (K [(0,.ints .u32 gS),(1,.ints .u32 gR),(3,.cells [eM,.int .i64 F,.map (some 7),.map (some 8),.int .i64 0,.bool false,.bool eB.on,.int .i64 D]),(5,.dy none C),(6,.dy none N),(7,.map [] 0),(8,.map [] 0),(9,.cells [P3]),(10,.cells [.int .i64 0])]) 11))]:=cT.ef
theorem ag6(F D:Int)[eB](C N:ae):vX ak mE [] 1000 7 Tryz.f57 (Pv) (sRn D C N F)
  [([],
   [((0:Int)<=(0:Int)/\(0:Int)<=(0:Int))],
   .ret (.ew []) (hRg D C N [] [] eM [] 0 0) 9)]
 :=⟨U,U,U⟩
theorem NH(T A:Nat)(b:B)(F R D:Int)[eB](C N:ae)(l:List iY)(x:B)(hb:T<=b.length)(iC:∀r∈l,r.ok)(Ib:b.take T=de l++x)(wF:Stop (b.take T) (de l).length)(J:T<=A)(mA:T<1000000000):
  c5 ak 57 [P3] (dN (pS T A b F R D C N)) 7 (.ew []) (hRg D C N (iD l).C (iD l).N (.dx (some (4,0)) (de l).length A 1) [(4,.ia 5 false b)] (Int.ofNat (de l).length) (iD l).R) 9:=by
 refine c7 Tryz.func57 (code:=SE) U U ?_;refine iw  3 XT (agz T A b F R D C N) cW ?_;refine AP [(7,none),(8,none)] (s2:=eL [(1,.ptr (some (9,0))),(2,.ptr (some (10,0)))] (K (lRv T A b F D C N 0 [] [] 0)) 11) U ?_;show TG ak 7 Tryz.f57.ntmps Pv _ _;refine c6 U ?_;refine c6 U ?_;have Ex:(de l).length+x.length=T:=by
  have:=aL List.length Ib;rw[aY,ay]at this;omega
 refine fV uW (anR T A b F D C N (b.take T)) (dG ?_);refine⟨G L (eS rfl),fun s' ek=>dh ek ?_⟩;refine fk (i:=0) U ?_;refine oP (gf:=103) (lb:=[.ptr (some (11,0))]) U U U U U (SX T A b F D C N (b.take T) l x iC Ib wF (by rw[aY];omega)).one ?_;rintro v h n ⟨rfl,rfl,rfl⟩;refine⟨U,?_⟩;show TG ak 7 Tryz.f57.ntmps (dU Pv) (uq (sRw T A b F D C N (b.take T)) (PB T A b F D C N (b.take T) (iD l).R (iD l).C (iD l).N (Int.ofNat (de l).length)) 14) _;refine sB uW mo _ U (anS T A b F D C N (b.take T) (iD l).R (iD l).C (iD l).N (de l).length) (dG ?_);exact⟨eS ⟨aA _,dr⟩,_,_,_,rfl,rfl,rfl,rfl⟩
theorem HI(F R D:Int)[eB](C N:ae):c5 ak 57 [P3] (dN (pN F R D C N)) 7 (.ew []) (hRg D C N [] [] eM [] 0 0) 9:=by
 refine c7 Tryz.func57 (code:=SE) U U ?_;refine iw  3 uW (ag5 F R D C N) cW ?_;refine AP [(7,none),(8,none)] (s2:=sRn D C N F) U ?_;refine sB uW mo _ U (ag6 F D C N) (dG ?_);exact⟨eS ⟨dP,dP⟩,_,_,_,rfl,rfl,rfl,rfl⟩
noncomputable abbrev Wu:Code:=dO Tryz.f77
noncomputable abbrev ace:Code:=dw 2 Wu
abbrev P8:V:=.ptr (some (8,0))
abbrev PC:V:=.ptr (some (10,0))
abbrev P11:V:=.ptr (some (11,0))
abbrev aV(x:B):ag:=[.str x,P8,P11,PC]
abbrev f78:V:=.fn (.func 78) [] [.ptr (some (7,0))]
section
variable(T A:Nat)(b:B)(F R D:Int)[eB](C N:ae)
section
variable(sn:ae)
def lV:af:=fM (pS T A b F R D C N)++[(7,.cells [.map (some 6)]),(8,.cells [.map (some 9)]),(9,.dy none sn),(10,.cells [.fn (.func 77) [] [P8,P11,PC]]),(11,.cells [P3])]
def Wv:St:=eL [(5,P8),(6,PC),(10,f78)] (K (lV T A b F R D C N [])) 12
noncomputable def lVx:af:=lV T A b F R D C N sn++[(12,.nf),(13,.loop true none (Wv T A b F R D C N).S [11] agk agl)]
noncomputable def NI:H rs:=K (lVx T A b F R D C N sn)
def lMv:af:=[(0,.ints .u32 gS),(1,.ints .u32 gR),(3,.cells (vW 4 5 6 (pS T A b F R D C N))),(4,.ia 5 false b),(5,.dy none C),(7,.cells [.map (some 6)]),(8,.cells [.map (some 9)]),(9,.dy none sn),(10,.cells [.fn (.func 77) [] [P8,P11,PC]]),(11,.cells [P3]),(12,.nf)]
def mV:H rs:=K (lMv T A b F R D C N sn)
noncomputable def Zv:H rs:=((NI T A b F R D C N sn).set 6 none).set 13 none
def sVi(O:List (B))(i:Nat):St:=eL [(1,P8),(2,P11),(3,PC),(18,.dV false O.length (strs O)),(19,.int .i64 (Int.ofNat O.length)),(20,.int .i64 (Int.ofNat i))] (mV T A b F R D C N sn) 15
end
end
section
variable(T A:Nat)(b:B)(F R D:Int)
theorem anT[eB](C N:ae)(x:B)(sn:ae):dc mE [(9,.di (.bool true))] 15 Tryz.f77 [] (Wu) (cZ (aV x) (mV T A b F R D C N sn) 15) [([],[(if false=true then V.ew [lf.fI (V.bool false) (dj (lf.str x) sn),V.bool (dj (lf.str x) sn).isSome]else lf.fI (V.bool false) (dj (lf.str x) sn))=V.bool true],.ret (.ew []) (mV T A b F R D C N sn) 15)]:=cT.ef
theorem anU[eB](C N:ae)(x:B)(sn:ae):dc mE [(9,.di (.bool false))] 15 Tryz.f77 [0,1,2,3] (eU 2 Wu) (cZ (aV x) (mV T A b F R D C N sn) 15) [([],[(if false=true then V.ew [lf.fI (V.bool false) (dj (lf.str x) sn),V.bool (dj (lf.str x) sn).isSome]else lf.fI (V.bool false) (dj (lf.str x) sn))=V.bool false],eP (eL [(0,.str x),(1,P8),(2,P11),(3,PC)] (mV T A b F R D C N (iK (.str x) (.bool true) sn)) 15))]:=cT.ef
theorem anV[eB](C N:ae)(x:B)(sn:ae)(d:B)(O:List (B))(k:Int):dc mE [(17,.di (nW d O k)),(20,.di (.int .i64 (Int.ofNat 0)))] 15 Tryz.f77 [1,2,3,18,19,20] (dS ace) (eL [(0,.str x),(1,P8),(2,P11),(3,PC)] (mV T A b F R D C N sn) 15) [([],[(if false=true then V.ew [lf.fI (V.agg [V.str ([]:B),V.dx none 0 0 0,V.int aj (0:Int)]) (dj (lf.str x) C),V.bool (dj (lf.str x) C).isSome]else lf.fI (V.agg [V.str ([]:B),V.dx none 0 0 0,V.int aj (0:Int)]) (dj (lf.str x) C))=nW d O k,V.int aj (0:Int)=V.int aj (0:Int)],eP (eL [(1,.ptr (some (8,0))),(2,.ptr (some (11,0))),(3,.ptr (some (10,0))),(18,.dV false (O.length) (strs O)),(19,.int .i64 ((Int.ofNat O.length))),(20,.int .i64 0)] (K [(0,.ints .u32 gS),(1,.ints .u32 gR),(3,.cells [.dx (some (4,0)) T A 1,.int .i64 F,.map (some 5),.map (some 6),.int .i64 R,.bool false,.bool eB.on,.int .i64 D]),(4,.ia 5 false b),(5,.dy none C),(7,.cells [.map (some 6)]),(8,.cells [.map (some 9)]),(9,.dy none sn),(10,.cells [.fn (.func 77) [] [.ptr (some (8,0)),.ptr (some (11,0)),.ptr (some (10,0))]]),(11,.cells [.ptr (some (3,0))]),(12,.nf)]) 15))]:=cT.ef
theorem anW[eB](C N:ae)(sn sn2:ae)(O:List (B))(i:Nat)(p:B):dc (fF mE 77 (aV p) (mV T A b F R D C N sn) 15 (.ew [],mV T A b F R D C N sn2,15)) [(21,.split),(22,.di (.eK [.str p])),(27,.di (.int .i64 (Int.ofNat (i+1))))] 15 Tryz.f77 [1,2,3,18,19,20] (dD (dD (dU ace))) (sVi T A b F R D C N sn O i) (iU (decide (Int.ofNat i<Int.ofNat O.length)) ([kJ i O.length,(strs O).length=O.length*1,nT (strs O) i 1 [lf.str p],aV p=aV p/\mV T A b F R D C N sn=mV T A b F R D C N sn/\15=15,lA (Int.ofNat i+(1:Int)) (i+1)],eP (sVi T A b F R D C N sn2 O (i+1))) ([],.to (.exit 0) (sVi T A b F R D C N sn O i))):=cT.ef
theorem anX[eB](C N:ae)(sn:ae)(O:List (B))(i:Nat):∃be,zP ak mE [(21,.di (.bool false))] 1000 15 Tryz.f77 [1,2,3,18,19,20] 0 (dD (dD (dU ace))) (sVi T A b F R D C N sn O i) be
  [([],
   [(V.bool (decide (Int.ofNat i<Int.ofNat O.length))=V.bool false)],
   .ret (.ew []) (mV T A b F R D C N sn) 15)]
 :=zP.of U U U
end
def ou(ks:List (B)):ae:=ks.map fun k=>(.str k,.bool true)
theorem zU(x:B):∀ks:List (B),dj (.str x) (ou ks)=if x∈ks then some (.bool true)else none
 | []=>rfl
 |k::ks=>by
  have ih:=zU x ks;unfold ou at ih ⊢;rw[bX,gy,ih];by_cases h:k=x
  . subst h;simp
  . have X:¬(lf.str k=lf.str x):=fun e=>h (by cases e;rfl);have h2:¬x=k:=fun e=>h e.symm;simp only[X,cJ,aD,h2,false_or]
theorem Ww{x:B}{ks:List (B)}(h:x∉ks):iK (.str x) (.bool true) (ou ks)=ou (ks++[x]):=by
 rw[vY _ (by rw[zU,aJ h])];unfold ou;rw[aZ];rfl
def qd(C:ae)(x:B):List (B):=match dj (.str x) C with
 |some (.agg [_,.dV _ Q,_])=>dI Q
 |_=>[]
theorem F3{C:ae}{x d:B}{O:List (B)}{k:Int}(h:dj (.str x) C=some (tf d O k)):qd C x=O:=by
 unfold qd;rw[h];exact iu O
def mF(C:ae):Nat->B->List (B)->List (B)
 |0,_,ks=>ks
 |k+1,x,ks=>if x∈ks then ks else(qd C x).foldl (fun a r=>mF C k r a) (ks++[x])
def Ends(C:ae):Nat->B->Prop
 |0,_=>False
 |k+1,x=>Cn C x/\(qd C x).length<=1000000/\∀r∈qd C x,Ends C k r
section
variable(T A:Nat)(b:B)(F R D:Int)[eB](C N:ae)
omit [eB]in
theorem F4{x:B}{ks:List (B)}(h:x∈ks):(if false=true then V.ew [lf.fI (V.bool false) (dj (lf.str x) (ou ks)),V.bool (dj (lf.str x) (ou ks)).isSome]else lf.fI (V.bool false) (dj (lf.str x) (ou ks)))=V.bool true:=by
 rw[zU,aF h];rfl
omit [eB]in
theorem DW{x:B}{ks:List (B)}(h:x∉ks):(if false=true then V.ew [lf.fI (V.bool false) (dj (lf.str x) (ou ks)),V.bool (dj (lf.str x) (ou ks)).isSome]else lf.fI (V.bool false) (dj (lf.str x) (ou ks)))=V.bool false:=by
 rw[zU,aJ h];rfl
omit [eB]in
theorem v7{x d:B}{O:List (B)}{k:Int}(h:dj (.str x) C=some (tf d O k)):(if false=true then V.ew [lf.fI (V.agg [V.str ([]:B),V.dx none 0 0 0,V.int aj (0:Int)]) (dj (lf.str x) C),V.bool (dj (lf.str x) C).isSome]else lf.fI (V.agg [V.str ([]:B),V.dx none 0 0 0,V.int aj (0:Int)]) (dj (lf.str x) C))=nW d O k:=by
 rw[h];rfl
omit [eB]in
theorem ag8:77<Tryz.prog.funcs.size:=ax U
theorem SY:∀(k:Nat) (x:B) (ks:List (B)),Ends C k x->c5 ak 77 (aV x) (mV T A b F R D C N (ou ks)) 15 (.ew []) (mV T A b F R D C N (ou (mF C k x ks))) 15
 |0,_,_,h=>h.elim
 |k+1,x,ks,h=>by
  obtain⟨⟨d,O,n,he⟩,hn,hr⟩:=h;refine c7 Tryz.func77 (code:=Wu) U U ?_;unfold mF;by_cases M:x∈ks
  . rw[aF M];refine eZ uW (anT T A b F R D C N x (ou ks)) (dG ?_);exact⟨eS (F4 M),_,_,_,rfl,rfl,rfl,rfl⟩
  . rw[aJ M];refine iw  2 uW (anU T A b F R D C N x (ou ks)) (eS (DW M)) ?_;rw[Ww M];rw[F3 he]at hn hr ⊢;refine c6 U ?_;refine fV uW (anV T A b F R D C N x (ou (ks++[x])) d O n) (dG ?_);refine⟨G (v7 C he) (eS rfl),fun s' ek=>?_⟩;have ek:fe 15 [1,2,3,18,19,20] s'=some (sVi T A b F R D C N (ou ((O.take 0).foldl (fun a r=>mF C k r a) (ks++[x]))) O 0):=ek;refine ju 0 O.length (fun i=>sVi T A b F R D C N (ou ((O.take i).foldl (fun a r=>mF C k r a) (ks++[x]))) O i) U U (.norm ek) (fun i hi=>?_) ?_
    . have J:=SY k O[i] ((O.take i).foldl (fun a r=>mF C k r a) (ks++[x])) (hr _ (b9 hi));generalize hK:(O.take i).foldl (fun a r=>mF C k r a) (ks++[x])=hL at J;have qe:(O.take (i+1)).foldl (fun a r=>mF C k r a) (ks++[x])=mF C k O[i] hL:=by
       rw[bH,az hi,cF,cR,hK];rfl
      obtain⟨L3,yw⟩:=anW T A b F R D C N (ou hL) (ou (mF C k O[i] hL)) O i O[i];simp only[qe,hK];refine gP (uW.jG ag8 J) mo oL U yw fun g hg J=>?_;rcases jh hg with rfl|rfl
      . exact⟨G ⟨aA _,dr⟩ (G (by rw[eN,bn]) (G (aL V.eK (fR (az hi))) (G ⟨rfl,rfl,rfl⟩ (eS (fP dr L))))),fun s' ek=>.norm ek⟩
      . exact absurd (aK (J _ (au.2 rfl))) dr
    . obtain⟨L3,yw⟩:=anX T A b F R D C N (ou ((O.take O.length).foldl (fun a r=>mF C k r a) (ks++[x]))) O O.length;refine Su 0 uW mo (fun v h n=>v= .ew []/\h=mV T A b F R D C N (ou (O.foldl (fun a r=>mF C k r a) (ks++[x])))/\n=15) U yw (fun s' ek=>⟨by simp,by rw[dY];exact ek⟩) (dG ?_);exact⟨eS (aL V.bool (bz L)),⟨rfl,by rw[aU],rfl⟩,fun s' ek=>⟨by simp,ek⟩⟩
end
def l9(C:ae)(k:Nat)(ds:List (B)):List (B):=ds.foldl (fun a d=>mF C k d a) []
inductive Zw(C:ae):B->B->Prop where
 |self (x):Zw C x x
 |step (x y z):y∈qd C x->Zw C y z->Zw C x z
variable{C:ae}
def Grow(C:ae)(ks fr:List (B)):Prop:=(∀y∈ks,y∈fr)/\(∀y∈fr,y∉ks->∀r∈qd C y,r∈fr)/\(ks.Nodup->fr.Nodup)
theorem Grow.refl(ks:List (B)):Grow C ks ks:=⟨fun _ h=>h,fun _ X h2=>absurd X h2,id⟩
theorem Grow.trans{a b c:List (B)}(X:Grow C a b)(h2:Grow C b c):Grow C a c:=
 ⟨fun y h=>h2.1 y (X.1 y h),fun y hy hn r hr=>by
  by_cases hb:y∈b
  . exact h2.1 r (X.2.1 y hb hn r hr)
  . exact h2.2.1 y hy hb r hr,fun h=>h2.2.2 (X.2.2 h)⟩
theorem w7{f:List (B)->B->List (B)}:∀(l:List (B)) (ks:List (B)),(∀r∈l,∀a,Grow C a (f a r)/\r∈f a r)->Grow C ks (l.foldl f ks)/\∀r∈l,r∈l.foldl f ks
 | [],ks,_=>⟨.refl ks,fun _ h=>by cases h⟩
 |x::l,ks,h=>by
  obtain⟨g1,g2⟩:=h x (by simp) ks;obtain⟨g3,g4⟩:=w7 l (f ks x) fun r hr=>h r (by simp[hr]);refine⟨g1.trans g3,fun r hr=>?_⟩;rcases aD.1 hr with rfl|hr
  . exact g3.1 _ g2
  . exact g4 r hr
theorem DX:∀(k:Nat) (x:B) (ks:List (B)),Ends C k x->Grow C ks (mF C k x ks)/\x∈mF C k x ks
 |0,_,_,h=>h.elim
 |k+1,x,ks,h=>by
  unfold mF;split
  . rename_i M;exact⟨.refl ks,M⟩
  . rename_i M;obtain⟨g1,g2⟩:=w7 (C:=C) (f:=fun a r=>mF C k r a) (qd C x) (ks++[x]) fun r hr a=>DX k r a (h.2.2 r hr);have Qn:=g1.1 x (by simp);refine⟨⟨fun y hy=>g1.1 y (by simp[hy]),fun y hy hn r hr=>?_,fun hn=>g1.2.2 ?_⟩,Qn⟩
    . by_cases e:y=x
      . subst e;exact g2 r hr
      . exact g1.2.1 y hy (by simp[hn,e]) r hr
    . exact List.nodup_append.2 ⟨hn,by simp,fun a ha b hb=>by rw[au]at hb;subst hb;intro e;subst e;exact M ha⟩
theorem yx{f:List (B)->B->List (B)}{P:B->Prop}:∀(l:List (B)) (ks:List (B)),(∀r∈l,∀a,∀y∈f a r,y∈a\/P y)->∀y∈l.foldl f ks,y∈ks\/P y
 | [],_,_,y,hy=>.inl hy
 |x::l,ks,h,y,hy=>by
  rcases yx l (f ks x) (fun r hr=>h r (by simp[hr])) y hy with X|X
  . exact h x (by simp) ks y X
  . exact .inr X
theorem F5:∀(k:Nat) (x:B) (ks:List (B)),∀y∈mF C k x ks,y∈ks\/Zw C x y
 |0,_,_,_,h=>.inl h
 |k+1,x,ks,y,h=>by
  unfold mF at h;split at h
  . exact .inl h
  . rcases yx (P:=Zw C x) (qd C x) (ks++[x]) (fun r hr a z hz=>(F5 k r a z hz).imp id fun q=>.step x r z hr q) y h with X|X
    . rcases aW.1 X with h2|h2
      . exact .inl h2
      . rw[au]at h2;subst h2;exact .inr (.self _)
    . exact .inr X
theorem HJ{fr:List (B)}(hS:∀y∈fr,∀r∈qd C y,r∈fr){x y:B}(h:Zw C x y):x∈fr->y∈fr:=by
 induction h with
 |self x=>exact id
 |step x y z hr _ ih=>exact fun M=>ih (hS x M y hr)
section
variable{k:Nat}{ds:List (B)}
theorem DY(he:∀d∈ds,Ends C k d)(y:B):y∈l9 C k ds↔∃d∈ds,Zw C d y:=by
 obtain⟨g1,g2⟩:=w7 (C:=C) (f:=fun a d=>mF C k d a) ds [] fun r hr a=>DX k r a (he r hr);constructor
 . intro h;rcases yx (P:=fun y=>∃d∈ds,Zw C d y) ds [] (fun r hr a z hz=>(F5 k r a z hz).imp id fun q=>⟨r,hr,q⟩) y h with X|X
   . cases X
   . exact X
 . rintro⟨d,hd,hr⟩;exact HJ (fun y hy r hr=>g1.2.1 y hy (by simp) r hr) hr (g2 d hd)
theorem zV(he:∀d∈ds,Ends C k d):(l9 C k ds).Nodup:=
 (w7 (C:=C) (f:=fun a d=>mF C k d a) ds [] fun r hr a=>DX k r a (he r hr)).1.2.2 List.nodup_nil
theorem JE{a b:List (B)}(hp:List.Perm a b)(he:∀d∈b,Ends C k d):List.Perm (l9 C k a) (l9 C k b):=by
 have ha:∀d∈a,Ends C k d:=fun d h=>he d (hp.mem_iff.1 h);refine(List.perm_ext_iff_of_nodup (zV ha) (zV he)).2 fun y=>?_;rw[DY ha,DY he];exact⟨fun⟨d,h,r⟩=>⟨d,hp.mem_iff.1 h,r⟩,fun⟨d,h,r⟩=>⟨d,hp.mem_iff.2 h,r⟩⟩
end
section
variable(T A:Nat)(b:B)(F R D:Int)[eB](C N:ae)
section
variable(sn:ae)
noncomputable def SZ:St:=eL [(0,.fn (.yield 13) [] []),(6,.ptr (some (14,0)))] ((NI T A b F R D C N sn).set 6 none) 15
noncomputable def s4x(kn d:B):St:={ SZ T A b F R D C N sn with S:=(((((SZ T A b F R D C N sn).S.set 7 (some (.ew [.bool true,.str kn,.str d]))).set 8 (some (.bool true))).set 9 (some (.ew [.str kn,.str d]))).set 10 (some (.str d))).set 4 (some (.str d)) }
def lR7:af:=fM (pS T A b F R D C N)++[(7,.cells [.map (some 6)])]
def hRx:H rs:=K (lR7 T A b F R D C N++[(8,.dy none sn)])
end
end
noncomputable abbrev anZ(args:ag)(h:H rs)(n:Nat)(v:V)(X:H rs)(n1:Nat):e9:=gL ak (Wa 77 args h n v X n1 W19) H0 1000 40
section
variable(T A:Nat)(b:B)(F R D:Int)
theorem an0[eB](C N:ae)(sn sn2:ae)(kn d:B):dc (anZ (aV d) (Zv T A b F R D C N sn) 15 (.ew []) (Zv T A b F R D C N sn2) 15) [] 15 Tryz.f78 [0,6] ((th Hx).rest) (s4x T A b F R D C N sn kn d) [([],[aV d=aV d/\Zv T A b F R D C N sn=Zv T A b F R D C N sn/\15=15],eP (SZ T A b F R D C N sn2))]:=cT.ef
theorem an1[eB](C N:ae):dc mE [] 8 Tryz.f51 [1,5,6] (eU 4 Sz) (cZ [P3,f78] (K (lR7 T A b F R D C N)) 8) [([],[],eP (eL [(1,.fn (.func 78) [] [.ptr (some (7,0))]),(5,.ptr (some (8,0))),(6,.ptr (some (10,0)))] (K (fM (pS T A b F R D C N)++[(7,.cells [.map (some 6)]),(8,.cells [.map (some 9)]),(9,.map [] 0),(10,.cells [.fn (.func 77) [] [.ptr (some (8,0)),.ptr (some (11,0)),.ptr (some (10,0))]]),(11,.cells [.ptr (some (3,0))])])) 12))]:=cT.ef
theorem an2[eB](C N:ae):dc mE [] 8 Tryz.f51 [5,6,10] (dS (dS Hw)) (eL [(1,f78),(5,P8),(6,PC)] (K (lV T A b F R D C N [])) 12) [([],[],eP (Wv T A b F R D C N))]:=cT.ef
theorem an3[eB](C N sn:ae):vX ak mE [] 1000 8 Tryz.f51 (dU Hw) (uq (Wv T A b F R D C N) (NI T A b F R D C N sn) 14)
  [([],
   [],
   .ret (.map (some 8)) (hRx T A b F R D C N sn) 9)]
 :=⟨U,U,U⟩
end
def EC(N:ae):Prop:=∀e∈N,∃n d,e=(.str n,.str d)
def iV(N:ae):List (B):=N.map fun e=>lf.aa9 e.2
section
variable(T A:Nat)(b:B)(F R D:Int)[eB](C N:ae)
theorem NJ(sn:ae):∀k,(Zv T A b F R D C N sn).get k=(mV T A b F R D C N sn).get k:=by
 have key:∀k,k<15->(Zv T A b F R D C N sn).get k=(mV T A b F R D C N sn).get k:=by
  intro k hk;rcases(by omega:k=0\/k=1\/k=2\/k=3\/k=4\/k=5\/k=6\/k=7\/k=8\/k=9\/k=10\/k=11\/k=12\/k=13\/k=14)with rfl|rfl|rfl|rfl|rfl|rfl|rfl|rfl|rfl|rfl|rfl|rfl|rfl|rfl|rfl<;>kernel_rfl
 exact Wb (l:=lVx T A b F R D C N sn) (l0:=lMv T A b F R D C N sn) (a:=6) (b:=13) (rt:=15) U U dP dP dP key
section
variable(k:Nat)
theorem Wx(x:B)(ks:List (B))(h:Ends C k x):c5 ak 77 (aV x) (Zv T A b F R D C N (ou ks)) 15 (.ew []) (Zv T A b F R D C N (ou (mF C k x ks))) 15:=
 c5.ext (NJ T A b F R D C N _) (NJ T A b F R D C N _) (SY T A b F R D C N k x ks h)
abbrev RVx(v:V)(h:H rs)(n:Nat):Prop:=∃iO,List.Perm iO N/\v= .ew []/\h=NI T A b F R D C N (ou (l9 C k (iV iO)))/\n=14
theorem Wy(Ie:EC N)(he:∀d∈iV N,Ends C k d):gh ak 78 [.fn (.yield 13) [] [],.ptr (some (7,0))] (NI T A b F R D C N (ou [])) 14 (RVx T A b F R D C N k):=by
 refine gO mo po Tryz.func78 (code:=Hx) U U ?_;rw[agm];refine zN (v0:=.map (some 6)) (kH:=(cZ [.fn (.yield 13) [] [],.ptr (some (7,0))] (NI T A b F R D C N (ou [])) 14).S.set 5 (some (.map (some 6)))) (Ap:=((cZ [.fn (.yield 13) [] [],.ptr (some (7,0))] (NI T A b F R D C N (ou [])) 14).S.set 5 (some (.map (some 6)))).set 6 (some (.ptr (some (14,0))))) (m:=6) (kd:=none) (C:=N) mo Nx
  U U U U (ax rfl) U (fun iO s1=>fe 15 [0,6] s1=some (SZ T A b F R D C N (ou (l9 C k (iV iO))))) U ?_
 rintro iO left s1 hs hp;refine⟨[0,6],_,hs,U,fun hl=>?_,fun e kN he2=>?_⟩
 . subst hl;rw[cu]at hp;refine⟨(SZ T A b F R D C N (ou (l9 C k (iV iO)))).S.set 7 (some (.ew [.bool false])),{ SZ T A b F R D C N (ou (l9 C k (iV iO)))with S:=((SZ T A b F R D C N (ou (l9 C k (iV iO)))).S.set 7 (some (.ew [.bool false]))).set 8 (some (.bool false)) },U,U,U,.inl rfl,.ew [],NI T A b F R D C N (ou (l9 C k (iV iO))),14,U,iO,hp,rfl,rfl,rfl⟩
 . have yc:e∈N:=hp.mem_iff.1 (cj _ (he2.mem_iff.2 (by simp)));obtain⟨kn,d,rfl⟩:=Ie e yc;have hd:Ends C k d:=he d (bF.2 ⟨_,yc,rfl⟩);have qe:l9 C k (iV (iO++[(.str kn,.str d)]))=mF C k d (l9 C k (iV iO)):=by
    unfold l9 iV;rw[aZ,cR];rfl
   rw[qe];generalize l9 C k (iV iO)=ks at *;refine⟨(SZ T A b F R D C N (ou ks)).S.set 7 (some (.ew [.bool true,.str kn,.str d])),{ SZ T A b F R D C N (ou ks)with S:=((SZ T A b F R D C N (ou ks)).S.set 7 (some (.ew [.bool true,.str kn,.str d]))).set 8 (some (.bool true)) },
    (((SZ T A b F R D C N (ou ks)).S.set 7 (some (.ew [.bool true,.str kn,.str d]))).set 8 (some (.bool true))).set 9 (some (.ew [.str kn,.str d])),s4x T A b F R D C N (ou ks) kn d,U,U,U,U,U,U,U,U,?_⟩
   refine fV (CX.of mo po (Nt ag8 (Wx T A b F R D C N k d ks hd) HE) H0 1000 40) (an0 T A b F R D C N (ou ks) (ou (mF C k d ks)) kn d) (dG ?_);exact⟨eS ⟨rfl,rfl,rfl⟩,fun s' ek=>ek⟩
def qv(C N:ae)(k:Nat):List (B):=l9 C k (iV N)
theorem NK(Ie:EC N)(he:∀d∈iV N,Ends C k d):c5 ak 51 [P3,f78] (K (lR7 T A b F R D C N)) 8 (.map (some 8)) (hRx T A b F R D C N (ou (qv C N k))) 9:=by
 refine c7 Tryz.func51 (code:=Sz) U U ?_;refine iw  4 uW (an1 T A b F R D C N) cW ?_;refine AP [(9,none)] (s2:=eL [(1,f78),(5,P8),(6,PC)] (K (lV T A b F R D C N [])) 12) U ?_;show TG ak 8 Tryz.f51.ntmps Hw _ _;refine c6 U ?_;refine c6 U ?_;refine fV uW (an2 T A b F R D C N) (dG ?_);refine⟨cW,fun s' ek=>dh ek ?_⟩;refine fk (i:=0) U ?_;refine oP (gf:=78) (lb:=[.ptr (some (7,0))]) U U U U U (Wy T A b F R D C N k Ie he) ?_;rintro v h n ⟨iO,hp,rfl,rfl,rfl⟩;have FY:List.Perm (ou (l9 C k (iV iO))) (ou (qv C N k)):=(JE (hp.map _) he).map _;generalize ou (l9 C k (iV iO))=sn at FY ⊢;generalize ou (qv C N k)=sn0 at FY ⊢;refine⟨U,?_⟩;show TG ak 8 Tryz.f51.ntmps (dU Hw) (uq (Wv T A b F R D C N) (NI T A b F R D C N sn) 14) _;have hg:(uq (Wv T A b F R D C N) (NI T A b F R D C N sn) 14).h.get 9=some (.dy none sn):=by kernel_rfl
 refine Lh (h2:=(uq (Wv T A b F R D C N) (NI T A b F R D C N sn) 14).h.set 9 (some (.dy none sn0))) (fun E w g=>s9 dP hg rfl (fun b s _ r=>Pd FY r) g) ?_;have e:({ uq (Wv T A b F R D C N) (NI T A b F R D C N sn) 14 with h:=(uq (Wv T A b F R D C N) (NI T A b F R D C N sn) 14).h.set 9 (some (.dy none sn0)) }:St)=uq (Wv T A b F R D C N) (NI T A b F R D C N sn0) 14:=by kernel_rfl
 rw[e];refine sB uW mo _ U (an3 T A b F R D C N sn0) (dG ?_);exact⟨cW,_,_,_,rfl,rfl,rfl,rfl⟩
end
end
noncomputable abbrev aha:Code:=dO Tryz.f17
noncomputable abbrev JF:Code:=dO Tryz.f66
section
variable(T A:Nat)(b:B)(F R D:Int)
theorem an4[eB](C N sn:ae)(d:B)(c:Bool):dc (fF mE 51 [P3,f78] (K (lR7 T A b F R D C N)) 8 (.map (some 8),hRx T A b F R D C N sn,9)) [(17,.di (.bool c))] 7 Tryz.f17 [] (aha) (cZ [P3,.str d] (dN (pS T A b F R D C N)) 7) [([],[[P3,f78]=[P3,f78]/\K (lR7 T A b F R D C N)=K (lR7 T A b F R D C N)/\8=8,(if false=true then V.ew [lf.fI (V.bool false) (dj (lf.str d) sn),V.bool (dj (lf.str d) sn).isSome]else lf.fI (V.bool false) (dj (lf.str d) sn))=V.bool c],.ret (.bool c) (dN (pS T A b F R D C N)) 7)]:=cT.ef
theorem an5[eB](C N:ae):dc mE [] 7 Tryz.f66 [] (JF) (cZ [P3] (dN (pS T A b F R D C N)) 7) [([],[gS=gS,gR=gR,false=false,Ic eB.on D],.ret (.int .i64 0) (dN (pS T A b (Int.ofNat T) R (wL D) C N)) 7)]:=cT.ef
end
theorem an6(F R D:Int)[eB](C N:ae):dc mE [] 7 Tryz.f66 [] (JF) (cZ [P3] (dN (pN F R D C N)) 7) [([],[gS=gS,gR=gR,false=false,Ic eB.on D],.ret (.int .i64 0) (dN (pN 0 R (wL D) C N)) 7)]:=cT.ef
noncomputable abbrev rN:Code:=dO Tryz.f16
section
variable(n:B)(l:List (Nat×List (Nat×pC)))(og:B)(T A:Nat)(b:B)(F R D:Int)
noncomputable abbrev Zx:e9:=gL ak W16 (rF l) 1000 40
noncomputable abbrev XU:CX ak:=CX.of mo po DP (rF l) 1000 40
def Zy(d0:B)(iP:List (B))(k:Int):List (Nat×List (Nat×pC)):=[(18,[(15,.di (.ew [nW d0 iP k,.bool true]))]),(46,[(13,.di (.bool false))]),(50,[(7,.di (.bool false))])]
def Wz(ex b1 b2 b3 b4 b5 b6:Bool):List (Nat×pC):=[(18,.di (.ew [.str og,.bool ex])),(23,.di (.bool b1)),(27,.di (.bool b2)),(31,.di (.bool b3)),(36,.di (.bool b4)),(40,.di (.bool b3)),(51,.di (.bool b5)),(56,.di (.bool b6))]
theorem S0(d og:B)(ex:Bool)(T A:Nat)(b:B)(F R D:Int)[eB](C N:ae):dc (Zx [(18,[(15,.di (.ew [zO,.bool false]))])]) (Wz og ex false false true true false false) 7 Tryz.f16 [] (rN) (cZ [P3,.str n,.str d] (dN (pS T A b F R D C N)) 7) [([],[(if true=true then V.ew [lf.fI (V.str ([]:B)) (dj (lf.str n) N),V.bool (dj (lf.str n) N).isSome]else lf.fI (V.str ([]:B)) (dj (lf.str n) N))=V.ew [V.str og,V.bool ex],jC (eI n ([]:B)),jC (decide ((Int.ofNat n.length)>(64:Int))),(V.bool !eI d ([]:B))=V.bool true,(if true=true then V.ew [lf.fI (V.agg [V.str ([]:B),V.dx none 0 0 0,V.int aj (0:Int)]) (dj (lf.str d) C),V.bool (dj (lf.str d) C).isSome]else lf.fI (V.agg [V.str ([]:B),V.dx none 0 0 0,V.int aj (0:Int)]) (dj (lf.str d) C))=V.ew [zO,V.bool false],(V.bool !false)=V.bool true],.ret (.int .i64 62) (K [(0,.ints .u32 gS),(1,.ints .u32 gR),(3,.cells [.dx (some (4,0)) T A 1,.int .i64 F,.map (some 5),.map (some 6),.int .i64 R,.bool false,.bool (eB.on),.int .i64 D]),(4,.ia 5 false b),(5,.dy none C),(6,.dy none N)]) 7)]:=cT.ef
theorem WA(d d0:B)(iP:List (B))(k:Int)(T A:Nat)(b:B)(F R D:Int)[eB](C N:ae):dc (Zx (Ps d0 iP k)) (Wz d true false false true false false true) 7 Tryz.f16 [] (rN) (cZ [P3,.str n,.str d] (dN (pS T A b F R D C N)) 7) [([],[(if true=true then V.ew [lf.fI (V.str ([]:B)) (dj (lf.str n) N),V.bool (dj (lf.str n) N).isSome]else lf.fI (V.str ([]:B)) (dj (lf.str n) N))=V.ew [V.str d,V.bool true],jC (eI n ([]:B)),jC (decide ((Int.ofNat n.length)>(64:Int))),(V.bool !eI d ([]:B))=V.bool true,(if true=true then V.ew [lf.fI (V.agg [V.str ([]:B),V.dx none 0 0 0,V.int aj (0:Int)]) (dj (lf.str d) C),V.bool (dj (lf.str d) C).isSome]else lf.fI (V.agg [V.str ([]:B),V.dx none 0 0 0,V.int aj (0:Int)]) (dj (lf.str d) C))=V.ew [nW d0 iP k,V.bool true],(V.bool !true)=V.bool false,(V.bool !eI d ([]:B))=V.bool true,EA (eI d d)],.ret (.int .i64 0) (K [(0,.ints .u32 gS),(1,.ints .u32 gR),(3,.cells [.dx (some (4,0)) T A 1,.int .i64 F,.map (some 5),.map (some 6),.int .i64 R,.bool false,.bool (eB.on),.int .i64 D]),(4,.ia 5 false b),(5,.dy none C),(6,.dy none N)]) 7)]:=cT.ef
theorem WB[eB](C N:ae):dc (Zx []) (Wz [] false false false false false false true) 7 Tryz.f16 [] (rN) (cZ [P3,.str n,.str []] (dN (pS T A b F R D C N)) 7) [([],[(if true=true then V.ew [lf.fI (V.str ([]:B)) (dj (lf.str n) N),V.bool (dj (lf.str n) N).isSome]else lf.fI (V.str ([]:B)) (dj (lf.str n) N))=V.ew [V.str [],V.bool false],jC (eI n ([]:B)),jC (decide ((Int.ofNat n.length)>(64:Int))),(V.bool !eI [] ([]:B))=V.bool false,(V.bool !eI [] ([]:B))=V.bool false,EA (eI [] [])],.ret (.int .i64 0) (K [(0,.ints .u32 gS),(1,.ints .u32 gR),(3,.cells [.dx (some (4,0)) T A 1,.int .i64 F,.map (some 5),.map (some 6),.int .i64 R,.bool false,.bool (eB.on),.int .i64 D]),(4,.ia 5 false b),(5,.dy none C),(6,.dy none N)]) 7)]:=cT.ef
theorem acg(d d0:B)(iP:List (B))(k:Int)(T A:Nat)(b:B)(F R D:Int)[eB](C N:ae):dc (Zx (Zy d0 iP k)) (Wz [] false false false true false false false) 7 Tryz.f16 [] (rN) (cZ [P3,.str n,.str d] (dN (pS T A b F R D C N)) 7) [([],[(if true=true then V.ew [lf.fI (V.str ([]:B)) (dj (lf.str n) N),V.bool (dj (lf.str n) N).isSome]else lf.fI (V.str ([]:B)) (dj (lf.str n) N))=V.ew [V.str [],V.bool false],jC (eI n ([]:B)),jC (decide ((Int.ofNat n.length)>(64:Int))),(V.bool !eI d ([]:B))=V.bool true,(if true=true then V.ew [lf.fI (V.agg [V.str ([]:B),V.dx none 0 0 0,V.int aj (0:Int)]) (dj (lf.str d) C),V.bool (dj (lf.str d) C).isSome]else lf.fI (V.agg [V.str ([]:B),V.dx none 0 0 0,V.int aj (0:Int)]) (dj (lf.str d) C))=V.ew [nW d0 iP k,V.bool true],(V.bool !true)=V.bool false,(V.bool !eI d ([]:B))=V.bool true,jC (decide ((Int.ofNat N.length)>=(64:Int))),jC (eI d []),n.length<100000000,d.length<100000000,jC (decide (IntKind.i64.wrap ((Int.ofNat T)+(Int.ofNat (jP n d).length))>(1048576:Int))),gS=gS,gR=gR,false=false,Ic eB.on D,0<A,T=b.length,fa (T+(jP n d).length) 1 1=true,jC (eI d ([]:B))],.ret (.int .i64 0) (K [(0,.ints .u32 gS),(1,.ints .u32 gR),(3,.cells [.dx (some (7,0)) (T+(jP n d).length) (T+(jP n d).length) 1,.int .i64 F,.map (some 5),.map (some 6),.int .i64 R,.bool false,.bool (eB.on),.int .i64 ((Qq eB.on D))]),(5,.dy none C),(6,.dy none (iK (lf.str n) (lf.str d) N)),(7,.ia 5 false (b++eW (eo (jP n d))))]) 8)]:=cT.ef
theorem ach(d og d0:B)(iP:List (B))(k:Int)(T A:Nat)(b:B)(F R D:Int)[eB](C N:ae):dc (Zx (Zy d0 iP k)) (Wz og true false false true false false false) 7 Tryz.f16 [] (rN) (cZ [P3,.str n,.str d] (dN (pS T A b F R D C N)) 7) [([],[(if true=true then V.ew [lf.fI (V.str ([]:B)) (dj (lf.str n) N),V.bool (dj (lf.str n) N).isSome]else lf.fI (V.str ([]:B)) (dj (lf.str n) N))=V.ew [V.str og,V.bool true],jC (eI n ([]:B)),jC (decide ((Int.ofNat n.length)>(64:Int))),(V.bool !eI d ([]:B))=V.bool true,(if true=true then V.ew [lf.fI (V.agg [V.str ([]:B),V.dx none 0 0 0,V.int aj (0:Int)]) (dj (lf.str d) C),V.bool (dj (lf.str d) C).isSome]else lf.fI (V.agg [V.str ([]:B),V.dx none 0 0 0,V.int aj (0:Int)]) (dj (lf.str d) C))=V.ew [nW d0 iP k,V.bool true],(V.bool !true)=V.bool false,(V.bool !eI d ([]:B))=V.bool true,jC (eI d og),n.length<100000000,d.length<100000000,jC (decide (IntKind.i64.wrap ((Int.ofNat T)+(Int.ofNat (jP n d).length))>(1048576:Int))),gS=gS,gR=gR,false=false,Ic eB.on D,0<A,T=b.length,fa (T+(jP n d).length) 1 1=true,jC (eI d ([]:B))],.ret (.int .i64 0) (K [(0,.ints .u32 gS),(1,.ints .u32 gR),(3,.cells [.dx (some (7,0)) (T+(jP n d).length) (T+(jP n d).length) 1,.int .i64 F,.map (some 5),.map (some 6),.int .i64 R,.bool false,.bool (eB.on),.int .i64 ((Qq eB.on D))]),(5,.dy none C),(6,.dy none (iK (lf.str n) (lf.str d) N)),(7,.ia 5 false (b++eW (eo (jP n d))))]) 8)]:=cT.ef
theorem aci[eB](C N:ae):dc (Zx [(46,[(13,.di (.bool false))]),(50,[(7,.di (.bool true))])]) (Wz og true false false false false false false) 7 Tryz.f16 [] (rN) (cZ [P3,.str n,.str []] (dN (pS T A b F R D C N)) 7) [([],[(if true=true then V.ew [lf.fI (V.str ([]:B)) (dj (lf.str n) N),V.bool (dj (lf.str n) N).isSome]else lf.fI (V.str ([]:B)) (dj (lf.str n) N))=V.ew [V.str og,V.bool true],jC (eI n ([]:B)),jC (decide ((Int.ofNat n.length)>(64:Int))),(V.bool !eI [] ([]:B))=V.bool false,(V.bool !eI [] ([]:B))=V.bool false,jC (eI [] og),n.length<100000000,0<100000000,jC (decide (IntKind.i64.wrap ((Int.ofNat T)+(Int.ofNat (jP n []).length))>(1048576:Int))),gS=gS,gR=gR,false=false,Ic eB.on D,0<A,T=b.length,fa (T+(jP n []).length) 1 1=true,EA (eI [] ([]:B))],.ret (.int .i64 0) (K [(0,.ints .u32 gS),(1,.ints .u32 gR),(3,.cells [.dx (some (7,0)) (T+(jP n []).length) (T+(jP n []).length) 1,.int .i64 F,.map (some 5),.map (some 6),.int .i64 R,.bool false,.bool (eB.on),.int .i64 ((Qq eB.on D))]),(5,.dy none C),(6,.dy none (mh (lf.str n) N)),(7,.ia 5 false (b++eW (eo (jP n []))))]) 8)]:=cT.ef
end
section
variable{a:B}{N:ae}{n b:B}
theorem uy{og:B}(h:dj (.str n) N=some (.str og)):(if true=true then V.ew [lf.fI (V.str ([]:B)) (dj (lf.str n) N),V.bool (dj (lf.str n) N).isSome]else lf.fI (V.str ([]:B)) (dj (lf.str n) N))=V.ew [V.str og,V.bool true]:=by
 rw[h];rfl
theorem HK(h:dj (.str n) N=none):(if true=true then V.ew [lf.fI (V.str ([]:B)) (dj (lf.str n) N),V.bool (dj (lf.str n) N).isSome]else lf.fI (V.str ([]:B)) (dj (lf.str n) N))=V.ew [V.str [],V.bool false]:=by
 rw[h];rfl
theorem an7{p:Prop}[Decidable p](h:p):V.bool (decide p)=V.bool true:=by rw[bE h]
theorem acj{p:Prop}[Decidable p](h:¬p):V.bool (decide p)=V.bool false:=by rw[bz h]
theorem an8(h:a=b):V.bool (eI a b)=V.bool true:=by rw[gr,beq_iff_eq.2 h]
theorem sE(h:a≠b):V.bool (eI a b)=V.bool false:=by rw[gr,bG.2 h]
theorem AZ(h:a≠b):(V.bool !eI a b)=V.bool true:=by rw[gr,bG.2 h];rfl
theorem B0(h:n.length<=64):V.bool (decide ((Int.ofNat n.length)>(64:Int)))=V.bool false:=acj (by rw[show Int.ofNat n.length=(n.length:Int)from rfl];omega)
end
def RtE(N:ae):Prop:=∀n,dj (.str n) N=none\/∃d,dj (.str n) N=some (.str d)
section
variable(n d:B)(T A:Nat)(b:B)(F R D:Int)[eB](C N:ae)
abbrev Qu:Prop:=n≠[]/\n.length<=64
abbrev NL(m:Nat)(b':B)(rt':ae):H rs:=Sw m b' F R D C rt'
theorem Mf(Ie:RtE N)(hn:Qu n)(hd:d≠[])(hk:dj (.str d) C=none):c5 ak 16 [P3,.str n,.str d] (dN (pS T A b F R D C N)) 7 (.int .i64 62) (dN (pS T A b F R D C N)) 7:=by
 have hO:∀n:Nat,Int.ofNat n=(n:Int):=fun _=>rfl;have hw:∃og ex,(if true=true then V.ew [lf.fI (V.str ([]:B)) (dj (lf.str n) N),V.bool (dj (lf.str n) N).isSome]else lf.fI (V.str ([]:B)) (dj (lf.str n) N))=V.ew [V.str og,V.bool ex]:=by
  rcases Ie n with h|⟨w,h⟩
  . exact⟨_,_,HK h⟩
  . exact⟨_,_,uy h⟩
 obtain⟨og,ex,hw⟩:=hw;refine c7 Tryz.func16 (code:=rN) U U ?_;refine eZ (XU [(18,[(15,.di (.ew [zO,.bool false]))])]) (S0 n d og ex T A b F R D C N) (dG ?_);refine⟨?_,_,_,_,rfl,rfl,rfl,rfl⟩
 repeat' (first|exact cW|refine kg ?_ ?_)
 . exact hw
 . exact sE hn.1
 . exact B0 hn.2
 . exact AZ hd
 . exact nc hk
 . rfl
theorem PD(hn:Qu n)(hd:d≠[])(hk:Cn C d)(rV:dj (.str n) N=some (.str d)):c5 ak 16 [P3,.str n,.str d] (dN (pS T A b F R D C N)) 7 (.int .i64 0) (dN (pS T A b F R D C N)) 7:=by
 have hO:∀n:Nat,Int.ofNat n=(n:Int):=fun _=>rfl;obtain⟨d0,iP,k,hk⟩:=hk;refine c7 Tryz.func16 (code:=rN) U U ?_;refine eZ (XU (Ps d0 iP k)) (WA n d d0 iP k T A b F R D C N) (dG ?_);refine⟨?_,_,_,_,rfl,rfl,rfl,rfl⟩
 repeat' (first|exact cW|refine kg ?_ ?_)
 . exact uy rV
 . exact sE hn.1
 . exact B0 hn.2
 . exact AZ hd
 . exact kZ hk
 . rfl
 . exact AZ hd
 . exact an8 rfl
theorem PE(hn:Qu n)(rV:dj (.str n) N=none):c5 ak 16 [P3,.str n,.str []] (dN (pS T A b F R D C N)) 7 (.int .i64 0) (dN (pS T A b F R D C N)) 7:=by
 have hO:∀n:Nat,Int.ofNat n=(n:Int):=fun _=>rfl;refine c7 Tryz.func16 (code:=rN) U U ?_;refine eZ (XU []) (WB n T A b F R D C N) (dG ?_);refine⟨?_,_,_,_,rfl,rfl,rfl,rfl⟩
 repeat' (first|exact cW|refine kg ?_ ?_)
 . exact HK rV
 . exact sE hn.1
 . exact B0 hn.2
 all_goals first|rfl|trivial
theorem S1(ho:BZ D)(hn:Qu n)(hd:d≠[])(hdl:d.length<=100)(hk:Cn C d)(rV:dj (.str n) N=none)(h64:N.length<64)(J:0<A)(hl:T=b.length)(EM:T+(jP n d).length<=1048576):
  c5 ak 16 [P3,.str n,.str d] (dN (pS T A b F R D C N)) 7 (.int .i64 0) (NL F R (wL D) C (T+(jP n d).length) (b++jP n d) (iK (.str n) (.str d) N)) 8:=by
 have hO:∀n:Nat,Int.ofNat n=(n:Int):=fun _=>rfl;obtain⟨d0,iP,k,hk⟩:=hk;refine c7 Tryz.func16 (code:=rN) U U ?_;obtain⟨be,hr⟩:=acg n d d0 iP k T A b F R D C N;simp only[gu]at hr;refine ij (XU (Zy d0 iP k)) mo _ U hr (dG ?_);refine⟨?_,_,_,_,rfl,rfl,rfl,rfl⟩
 repeat' (first|exact cW|refine kg ?_ ?_)
 . exact HK rV
 . exact sE hn.1
 . exact B0 hn.2
 . exact AZ hd
 . exact kZ hk
 . rfl
 . exact AZ hd
 . exact acj dr
 . exact sE hd
 . exact Nat.lt_of_le_of_lt hn.2 dP
 . omega
 . rw[eV dr dr];exact gl dr
 . first|rfl|trivial
 . first|rfl|trivial
 . first|rfl|trivial
 . exact ho
 . exact J
 . exact hl
 . exact jD L
 . exact sE hd
theorem S2(og:B)(ho:BZ D)(hn:Qu n)(hd:d≠[])(hdl:d.length<=100)(hk:Cn C d)(rV:dj (.str n) N=some (.str og))(fS:d≠og)(J:0<A)(hl:T=b.length)(EM:T+(jP n d).length<=1048576):
  c5 ak 16 [P3,.str n,.str d] (dN (pS T A b F R D C N)) 7 (.int .i64 0) (NL F R (wL D) C (T+(jP n d).length) (b++jP n d) (iK (.str n) (.str d) N)) 8:=by
 have hO:∀n:Nat,Int.ofNat n=(n:Int):=fun _=>rfl;obtain⟨d0,iP,k,hk⟩:=hk;refine c7 Tryz.func16 (code:=rN) U U ?_;obtain⟨be,hr⟩:=ach n d og d0 iP k T A b F R D C N;simp only[gu]at hr;refine ij (XU (Zy d0 iP k)) mo _ U hr (dG ?_);refine⟨?_,_,_,_,rfl,rfl,rfl,rfl⟩
 repeat' (first|exact cW|refine kg ?_ ?_)
 . exact uy rV
 . exact sE hn.1
 . exact B0 hn.2
 . exact AZ hd
 . exact kZ hk
 . rfl
 . exact AZ hd
 . exact sE fS
 . exact Nat.lt_of_le_of_lt hn.2 dP
 . omega
 . rw[eV dr dr];exact gl dr
 . first|rfl|trivial
 . first|rfl|trivial
 . first|rfl|trivial
 . exact ho
 . exact J
 . exact hl
 . exact jD L
 . exact sE hd
theorem S3(og:B)(ho:BZ D)(hn:Qu n)(rV:dj (.str n) N=some (.str og))(fS:og≠[])(J:0<A)(hl:T=b.length)(EM:T+(jP n []).length<=1048576):
  c5 ak 16 [P3,.str n,.str []] (dN (pS T A b F R D C N)) 7 (.int .i64 0) (NL F R (wL D) C (T+(jP n []).length) (b++jP n []) (mh (.str n) N)) 8:=by
 have hO:∀n:Nat,Int.ofNat n=(n:Int):=fun _=>rfl;refine c7 Tryz.func16 (code:=rN) U U ?_;obtain⟨be,hr⟩:=aci n og T A b F R D C N;simp only[gu]at hr;refine ij (XU [(46,[(13,.di (.bool false))]),(50,[(7,.di (.bool true))])]) mo _ U hr (dG ?_);refine⟨?_,_,_,_,rfl,rfl,rfl,rfl⟩
 repeat' (first|exact cW|refine kg ?_ ?_)
 . exact uy rV
 . exact sE hn.1
 . exact B0 hn.2
 . rfl
 . rfl
 . exact sE fS.symm
 . exact Nat.lt_of_le_of_lt hn.2 dP
 . decide
 . rw[eV dr dr];exact gl dr
 . first|rfl|trivial
 . first|rfl|trivial
 . first|rfl|trivial
 . exact ho
 . exact J
 . exact hl
 . exact jD L
 . rfl
end
def ahb:Go.Shelf.Ren:=⟨fun|42=>63|n=>n,fun n=>n,fun n=>n⟩
theorem S4:SlLaysN.n42 ak ahb:={
 mixed:=mo
 f42:=⟨"slices.Clone[[]gouache/api.Digest,gouache/api.Digest]",dP,Tryz.func63.trans (aL some U)⟩
 t4:=Tryz.underlying4
 a4:=Tryz.isAgg4
 z4:=Tryz.sizeOf4
 v4:=Tryz.zeroValue4
 t25:=Tryz.underlying25
 a25:=Tryz.isAgg25
 z25:=Tryz.sizeOf25
 v25:=Tryz.zeroValue25
 t26:=Tryz.underlying26
 a26:=Tryz.isAgg26
 z26:=Tryz.sizeOf26
 v26:=Tryz.zeroValue26
 i26:=by kernel_rfl }
def Mg:ag->Option (ah×V)
 | [.dV _ 0 []]=>some ([],.dV false 0 [])
 |_=>none
theorem S5:jK ak 63 (jW Mg):=by
 refine kD (ax U) fun args cU v e=>?_;unfold Mg at e;split at e
 . obtain⟨rfl,rfl⟩:=fg e;refine⟨rfl,rfl,fun _ E w dm _ ra=>?_⟩;obtain⟨y,ys,r0,O,rfl⟩:=ra;have O:ys=[]:=O;subst O;obtain⟨⟨a,A,vs,rfl,_,hv,_,_⟩,_⟩:=r0;cases a with
   |none=>
    refine(AnyG.slices_Clone_string_nil S4 0 A w).mono fun en w' ⟨he,hw⟩=>?_;subst he;subst hw;exact⟨⟨E,⟨none,0,[],rfl,aC _,rfl,fun _=>rfl,fun h=>absurd h (cB _)⟩,fun h=>by cases h⟩,Below.refl _ _⟩
   |some a=>
    refine(AnyG.slices_Clone_string_zero S4 a A w).mono fun en w' ⟨v',he,an9,_,hw⟩=>?_;subst he;have hv':∃a c,v'= .slice a 0 c:=by
     obtain⟨_,h⟩:=an9;rcases h with⟨h,_⟩|⟨g,A,cur,h,_⟩
     . exact⟨none,0,h⟩
     . exact⟨_,_,h⟩
    obtain⟨a2,c2,rfl⟩:=hv';exact⟨⟨E,⟨a2,c2,[],rfl,aX _,rfl,fun _=>rfl,fun h=>absurd h (cB _)⟩,fun h=>by cases h⟩,hw⟩
 . cases e
theorem ack(f:Bool)(h:H rs)(n:Nat):c5 ak 63 [.dV f 0 []] h n (.dV false 0 []) h n:=fun E w dm ra g hd=>
 S5.2 _ _ _ [] _ _ _ rfl cW E w dm ra g hd U
noncomputable abbrev csV(q:ag->Bool)(g:V)(l:List (Nat×List (Nat×pC)))(h:H rs)(f:Bool)(O:List (B)):e9:=zM (mD l) 43 q [.dV f O.length (strs O),g] h 8 (.bool true,h,8)
theorem acm(d:B)(f:Bool)(O:List (B))(T A:Nat)(b:B)(F R D:Int)[eB](C N:ae):dc (csV DM f44 [] (hB T A b F R D C N) f O) [(16,.di (.bool false)),(20,.di (.bool false))] 7 Tryz.f15 [] (uO) (cZ [P3,.str d,.dV f O.length (strs O)] (dN (pS T A b F R D C N)) 7) [([],[jC (decide ((Int.ofNat d.length)>(65536:Int))),jC (decide ((Int.ofNat O.length)>(1024:Int))),strs O=strs (dI (strs O)),O.length=(dI (strs O)).length,O.length<=1000000,∀(x:B),x∈dI (strs O)->x.length=32,fC [.dV f (O.length) (strs O),.fn (.func 44) [] [.ptr (some (7,0))]] (K (fM (pS T A b F R D C N)++[(7,.cells [.ptr (some (3,0))])])) 8],.ret (.ew [.str [],.int .i64 63]) (dN (pS T A b F R D C N)) 7)]:=cT.ef
theorem acn(d d0:B)(iP:List (B))(k:Int)(T A:Nat)(b:B)(F R D:Int)[eB](C N:ae):dc (mD []) [(17,.di (.ew [nW d0 iP k,.bool true]))] 7 Tryz.f25 [] (dO Tryz.f25) (cZ [P3,.str d] (dN (pS T A b F R D C N)) 7) [([],[(if true=true then V.ew [lf.fI (V.agg [V.str ([]:B),V.dx none 0 0 0,V.int aj (0:Int)]) (dj (lf.str d) C),V.bool (dj (lf.str d) C).isSome]else lf.fI (V.agg [V.str ([]:B),V.dx none 0 0 0,V.int aj (0:Int)]) (dj (lf.str d) C))=V.ew [nW d0 iP k,V.bool true],0<iP.length,(strs iP).length=iP.length,iP.length<=1000000],.ret (.ew [.str d0,.dV false (iP.length) (strs iP),.int .i64 0]) (dN (pS T A b F R D C N)) 7)]:=cT.ef
def hG(d0:B)(k:Int)(p:gx):H rs:=(dN p).set 7 (some (.cells [.str d0,.dV false 0 [],.int .i64 k]))
theorem WC(d d0:B)(k:Int)(T A:Nat)(b:B)(F R D:Int)[eB](C N:ae):dc (fF (mD []) 63 [.dV false 0 []] (hG d0 k (pS T A b F R D C N)) 16 (.dV false 0 [],hG d0 k (pS T A b F R D C N),16)) [(17,.di (.ew [nW d0 [] k,.bool true]))] 7 Tryz.f25 [] (dO Tryz.f25) (cZ [P3,.str d] (dN (pS T A b F R D C N)) 7) [([],[(if true=true then V.ew [lf.fI (V.agg [V.str ([]:B),V.dx none 0 0 0,V.int aj (0:Int)]) (dj (lf.str d) C),V.bool (dj (lf.str d) C).isSome]else lf.fI (V.agg [V.str ([]:B),V.dx none 0 0 0,V.int aj (0:Int)]) (dj (lf.str d) C))=V.ew [nW d0 [] k,V.bool true],fC [.dV false 0 []] (K (fM (pS T A b F R D C N)++[(7,.cells [.str d0,.dV false 0 [],.int .i64 k])])) 16],.ret (.ew [.str d0,.dV false 0 [],.int .i64 0]) (dN (pS T A b F R D C N)) 7)]:=cT.ef
theorem aco(d d0:B)(iP:List (B))(k:Int)(T A:Nat)(b:B)(F R D:Int)[eB](C N:ae):dc (mD []) [(15,.di (.ew [nW d0 iP k,.bool true]))] 7 Tryz.f18 [] (dO Tryz.f18) (cZ [P3,.str d] (dN (pS T A b F R D C N)) 7) [([],[(if true=true then V.ew [lf.fI (V.agg [V.str ([]:B),V.dx none 0 0 0,V.int aj (0:Int)]) (dj (lf.str d) C),V.bool (dj (lf.str d) C).isSome]else lf.fI (V.agg [V.str ([]:B),V.dx none 0 0 0,V.int aj (0:Int)]) (dj (lf.str d) C))=V.ew [nW d0 iP k,V.bool true]],.ret (.bool true) (dN (pS T A b F R D C N)) 7)]:=cT.ef
theorem acp(n d:B)(T A:Nat)(b:B)(F R D:Int)[eB](C N:ae):dc (mD []) [(16,.di (.ew [.str d,.bool true]))] 7 Tryz.f24 [] (dO Tryz.f24) (cZ [P3,.str n] (dN (pS T A b F R D C N)) 7) [([],[(if true=true then V.ew [lf.fI (V.str ([]:B)) (dj (lf.str n) N),V.bool (dj (lf.str n) N).isSome]else lf.fI (V.str ([]:B)) (dj (lf.str n) N))=V.ew [V.str d,V.bool true]],.ret (.ew [.str d,.bool true]) (dN (pS T A b F R D C N)) 7)]:=cT.ef
theorem acq(f:Bool)(O:List (B))(i:Nat)(T A:Nat)(b:B)(F R D:Int)[eB](C N:ae):dc (zM (mD []) 73 DM [.dV f O.length (strs O),f44] (hB T A b F R D C N) 8 (.int .i64 (Int.ofNat i),hB T A b F R D C N,8)) [(8,.di (.bool true))] 8 Tryz.f43 [] (V7) (cZ [.dV f O.length (strs O),f44] (hB T A b F R D C N) 8) [([],[fC [.dV f (O.length) (strs O),.fn (.func 44) [] [.ptr (some (7,0))]] (K (fM (pS T A b F R D C N)++[(7,.cells [.ptr (some (3,0))])])) 8,EA (decide (Int.ofNat i>=(0:Int)))],.ret (.bool true) (K (fM (pS T A b F R D C N)++[(7,.cells [.ptr (some (3,0))])])) 8)]:=cT.ef
theorem ahc{I:Nat}{h:H rs}{gv:V}{f:Bool}{O:List (B)}{nx:V->H rs->Nat->Prop}(j:Nat)
  (h0:TG ak I Tryz.f73.ntmps (dS Jy) (V8 h I gv f O) (andThen (fun s'=>fe I [0,1,7,8] s'=some (EZ h I gv f O 0)) fun _ _=>False))
  (hr:∀i,i<j->TG ak I Tryz.f73.ntmps V9 (EZ h I gv f O i) (andThen (fun s'=>fe I [0,1,7,8] s'=some (EZ h I gv f O (i+1))) fun _ _=>False))
  (he:TG ak I Tryz.f73.ntmps V9 (EZ h I gv f O j) fun y s'=>y= .ret/\fL ak I Tryz.f73 nx .ret s'):TG ak I Tryz.f73.ntmps LP (V8 h I gv f O) (fL ak I Tryz.f73 nx):=by
 refine c6 U ?_;refine c6 U ?_;refine fB h0 fun y s' ek=>?_;cases y<;>first|exact ek.elim|skip
 have ek:fe I [0,1,7,8] s'=some (EZ h I gv f O 0):=ek;refine fk (i:=0) U (fB (Q1:=fun z s'=>z= .ret/\fL ak I Tryz.f73 nx .ret s') (gw (fun k' s=>∃i,k'=j-i/\i<=j/\fe I [0,1,7,8] s=some (EZ h I gv f O i)) U ?_ j ⟨0,rfl,aX _,ek⟩) ?_)
 . rintro k' s1 ⟨i,hk,hi,fQ⟩;refine dh fQ ?_;rcases bO i j with fH|AE
   . refine fB (hr i fH) fun y s2 gY=>?_;cases y<;>first|exact gY.elim|skip
     exact⟨j-(i+1),L,i+1,rfl,L,gY⟩
   . obtain rfl:i=j:=by omega
     refine fB he fun y s2 gY=>?_;obtain⟨rfl,gY⟩:=gY;exact⟨rfl,gY⟩
 rintro y s2 ⟨rfl,gY⟩;exact gY
section
variable(f:Bool)(O:List (B))(T A:Nat)(b:B)(F R D:Int)[eB](C N:ae)
theorem WD(hl:O.length<=1000000)(j:Nat)(x:B)(hj:O[j]? =some x)(M:dj (.str x) C=none)(hg:∀i y,i<j->O[i]? =some y->Cn C y):
  TG ak 8 Tryz.f73.ntmps Pq (cZ [.dV f O.length (strs O),f44] (hB T A b F R D C N) 8) (fL ak 8 Tryz.f73 fun a b' c=>a= .int .i64 (Int.ofNat j)/\b'=hB T A b F R D C N/\c=8):=by
 have hO:∀n:Nat,Int.ofNat n=(n:Int):=fun _=>rfl;have Kq:j<O.length:=(aH.1 hj).1;refine iw  1 Pp (Nq T A b F R D C N f O) cW ?_;show TG ak 8 Tryz.f73.ntmps LP (V8 (hB T A b F R D C N) 8 f44 f O) _;refine ahc j ?_ (fun i Qm=>?_) ?_
 . refine fV Pp (Sn T A b F R D C N f O) (dG ?_);exact⟨fun p hp=>by rw[au]at hp;subst hp;rfl,fun s' ek=>ek⟩
 . obtain⟨y,hy⟩:∃y,O[i]? =some y:=⟨_,az L⟩;obtain⟨d0,iP,k,hk⟩:=hg i y Qm hy;refine fV (XP [(18,[(15,.di (.ew [nW d0 iP k,.bool true]))])]) (af9 f O y i T A b d0 iP k F R D C N) fun g hg J=>?_;simp only[aD,aN,br]at hg;rcases hg with rfl|rfl
   . refine⟨?_,fun s' ek=>ek⟩
     repeat' (first|exact cW|refine kg ?_ ?_)
     . exact⟨aA _,dr⟩
     . rw[eN,bn]
     . exact aL V.eK (fR hy)
     . exact kZ hk
     . exact fP dr L
   . exact absurd (aK (J _ (au.2 rfl))) dr
 . obtain⟨L3,yw⟩:=aga f O x j T A b F R D C N;refine gP (XP [(18,[(15,.di (.ew [zO,.bool false]))])]) mo (fun a b' c=>a= .int .i64 (Int.ofNat j)/\b'=hB T A b F R D C N/\c=8) U yw fun g hg J=>?_;simp only[aD,aN,br]at hg;rcases hg with rfl|rfl
   . refine⟨?_,⟨rfl,rfl,rfl⟩,fun s' ek=>⟨rfl,ek⟩⟩
     repeat' (first|exact cW|refine kg ?_ ?_)
     . exact⟨aA _,dr⟩
     . rw[eN,bn]
     . exact aL V.eK (fR hj)
     . exact nc M
   . exact absurd (aK (J _ (au.2 rfl))) dr
theorem WE(hl:O.length<=1000000)(j:Nat)(x:B)(hj:O[j]? =some x)(M:dj (.str x) C=none)(hg:∀i y,i<j->O[i]? =some y->Cn C y):
  c5 ak 43 [.dV f O.length (strs O),f44] (hB T A b F R D C N) 8 (.bool true) (hB T A b F R D C N) 8:=by
 have h73:c5 ak 73 [.dV f O.length (strs O),f44] (hB T A b F R D C N) 8 (.int .i64 (Int.ofNat j)) (hB T A b F R D C N) 8:=
  c7 Tryz.func73 U U (WD f O T A b F R D C N hl j x hj M hg)
 refine c7 Tryz.func43 (code:=V7) U U ?_;refine eZ ((XQ []).LI DM (ax U) h73) (acq f O j T A b F R D C N) (dG ?_);refine⟨?_,_,_,_,rfl,rfl,rfl,rfl⟩
 repeat' (first|exact cW|refine kg ?_ ?_)
 . exact⟨rfl,rfl,rfl⟩
 . exact an7 (aA _)
abbrev WH(e:Int):V:=.ew [.str [],.int .i64 e]
theorem WI(d:B)(hd:d.length<=65536)(hn:O.length<=1024)(h32:∀x∈O,x.length=32)(j:Nat)(x:B)(hj:O[j]? =some x)(M:dj (.str x) C=none)(hg:∀i y,i<j->O[i]? =some y->Cn C y):
  c5 ak 15 [P3,.str d,.dV f O.length (strs O)] (dN (pS T A b F R D C N)) 7 (WH 63) (dN (pS T A b F R D C N)) 7:=by
 have hO:∀n:Nat,Int.ofNat n=(n:Int):=fun _=>rfl;refine c7 Tryz.func15 (code:=uO) U U ?_;obtain⟨be,hr⟩:=acm d f O T A b F R D C N;simp only[iu]at hr;refine ij ((XQ []).LI DM (ax U) (WE f O T A b F R D C N L j x hj M hg)) mo _ U hr (dG ?_);refine⟨?_,_,_,_,rfl,rfl,rfl,rfl⟩
 repeat' (first|exact cW|refine kg ?_ ?_)
 . exact gl dr
 . exact gl dr
 . first|rfl|trivial
 . first|rfl|trivial
 . omega
 . exact h32
 . first|exact⟨rfl,rfl,rfl⟩|exact⟨trivial,trivial,rfl⟩|exact⟨trivial,trivial,trivial⟩|trivial
theorem WJ(d d0:B)(iP:List (B))(k:Int)(M:dj (.str d) C=some (tf d0 iP k))(hn:iP.length<=1000000):
  c5 ak 25 [P3,.str d] (dN (pS T A b F R D C N)) 7 (.ew [.str d0,.dV false iP.length (strs iP),.int .i64 0]) (dN (pS T A b F R D C N)) 7:=by
 refine c7 Tryz.func25 (code:=dO Tryz.f25) U U ?_;rcases iP with _|⟨r,iP⟩
 . refine eZ ((XQ []).jG (ax U) (ack false _ _)) (WC d d0 k T A b F R D C N) (dG ?_);refine⟨?_,_,_,_,rfl,rfl,rfl,rfl⟩
   repeat' (first|exact cW|refine kg ?_ ?_)
   . exact kZ M
   . exact⟨rfl,rfl,rfl⟩
 . refine eZ (XQ []) (acn d d0 (r::iP) k T A b F R D C N) (dG ?_);refine⟨?_,_,_,_,rfl,rfl,rfl,rfl⟩
   repeat' (first|exact cW|refine kg ?_ ?_)
   . exact kZ M
   . exact Nat.succ_pos _
   . exact eN _
   . exact hn
theorem WK(d:B)(M:Cn C d):c5 ak 18 [P3,.str d] (dN (pS T A b F R D C N)) 7 (.bool true) (dN (pS T A b F R D C N)) 7:=by
 obtain⟨d0,iP,k,M⟩:=M;refine c7 Tryz.func18 (code:=dO Tryz.f18) U U ?_;refine eZ (XQ []) (aco d d0 iP k T A b F R D C N) (dG ?_);refine⟨fun a ha=>?_,_,_,_,rfl,rfl,rfl,rfl⟩;rw[au]at ha;subst ha;exact kZ M
theorem Mh(n d:B)(M:dj (.str n) N=some (.str d)):c5 ak 24 [P3,.str n] (dN (pS T A b F R D C N)) 7 (.ew [.str d,.bool true]) (dN (pS T A b F R D C N)) 7:=by
 refine c7 Tryz.func24 (code:=dO Tryz.f24) U U ?_;refine eZ (XQ []) (acp n d T A b F R D C N) (dG ?_);refine⟨fun a ha=>?_,_,_,_,rfl,rfl,rfl,rfl⟩;rw[au]at ha;subst ha;exact uy M
end
end Go.Proofs.YtfihojpgobmmdaaGreatDoor
