/- Lemmas on the chunk store. No conditions. -/
import Derived.Shelf.Sort.Plain
import Derived.Test.YtfihojpgobmmdaaGreatDoorJointW13
import Derived.Test.YtfihojpgobmmdaaGreatDoorJointW14
import Derived.Shelf.SlSortCmp.Whole1
import Derived.Deep.QuietTactic
set_option linter.unusedVariables false
set_option linter.unusedSimpArgs false
set_option linter.unusedSectionVars false
namespace Go.Proofs.YtfihojpgobmmdaaGreatDoor
open Go Go.Eng Go.Shelf Go.Sort Go.RowKit
def Vz:Go.Shelf.Ren:=⟨fun|190=>87|125=>102|258=>114|128=>132|129=>133|302=>134|303=>135|304=>136|305=>137|306=>138|307=>139|308=>140|309=>141|310=>142|333=>152|329=>148|330=>149|334=>153|335=>154|336=>155|344=>158|n=>n,fun|31=>36|9=>9|3=>3|46=>144|0=>0|51=>120|53=>135|4=>4|183=>173|182=>172|131=>177|5=>5|218=>192|222=>196|228=>200|229=>201|n=>n,fun n=>n⟩
theorem RZ:Lays.n190 ak Vz:={
 mixed:=mo
 f125:=Tryz.func102.trans (aN some U)
 f128:=Tryz.func132.trans (aN some U)
 f129:=Tryz.func133.trans (aN some U)
 f190:=Tryz.func87.trans (aN some U)
 f258:=Tryz.func114.trans (aN some U)
 f302:=Tryz.func134.trans (aN some U)
 f303:=Tryz.func135.trans (aN some U)
 f304:=Tryz.func136.trans (aN some U)
 f305:=Tryz.func137.trans (aN some U)
 f306:=Tryz.func138.trans (aN some U)
 f307:=Tryz.func139.trans (aN some U)
 f308:=Tryz.func140.trans (aN some U)
 f309:=Tryz.func141.trans (aN some U)
 f310:=Tryz.func142.trans (aN some U)
 f329:=Tryz.func148.trans (aN some U)
 f330:=Tryz.func149.trans (aN some U)
 f333:=Tryz.func152.trans (aN some U)
 f334:=Tryz.func153.trans (aN some U)
 f335:=Tryz.func154.trans (aN some U)
 f336:=Tryz.func155.trans (aN some U)
 f344:=Tryz.func158.trans (aN some U)
 t0:=Tryz.underlying0
 a0:=Tryz.isAgg0
 z0:=Tryz.sizeOf0
 v0:=Tryz.zeroValue0
 t3:=Tryz.underlying3
 a3:=Tryz.isAgg3
 z3:=Tryz.sizeOf3
 v3:=Tryz.zeroValue3
 t4:=Tryz.underlying4
 a4:=Tryz.isAgg4
 z4:=Tryz.sizeOf4
 v4:=Tryz.zeroValue4
 t5:=Tryz.underlying5
 a5:=Tryz.isAgg5
 z5:=Tryz.sizeOf5
 v5:=Tryz.zeroValue5
 t9:=Tryz.underlying9
 a9:=Tryz.isAgg9
 z9:=Tryz.sizeOf9
 v9:=Tryz.zeroValue9
 t31:=Tryz.underlying36
 a31:=Tryz.isAgg36
 z31:=Tryz.sizeOf36
 v31:=Tryz.zeroValue36
 t46:=Tryz.underlying144
 a46:=Tryz.isAgg144
 z46:=Tryz.sizeOf144
 v46:=Tryz.zeroValue144
 t51:=Tryz.underlying120
 a51:=Tryz.isAgg120
 z51:=Tryz.sizeOf120
 v51:=Tryz.zeroValue120
 t53:=Tryz.underlying135
 a53:=Tryz.isAgg135
 z53:=Tryz.sizeOf135
 v53:=Tryz.zeroValue135
 t131:=Tryz.underlying177
 a131:=Tryz.isAgg177
 z131:=Tryz.sizeOf177
 v131:=Tryz.zeroValue177
 t182:=Tryz.underlying172
 a182:=Tryz.isAgg172
 z182:=Tryz.sizeOf172
 v182:=Tryz.zeroValue172
 t183:=Tryz.underlying173
 a183:=Tryz.isAgg173
 z183:=Tryz.sizeOf173
 v183:=Tryz.zeroValue173
 t218:=Tryz.underlying192
 a218:=Tryz.isAgg192
 z218:=Tryz.sizeOf192
 v218:=Tryz.zeroValue192
 t222:=Tryz.underlying196
 a222:=Tryz.isAgg196
 z222:=Tryz.sizeOf196
 v222:=Tryz.zeroValue196
 t228:=Tryz.underlying200
 a228:=Tryz.isAgg200
 z228:=Tryz.sizeOf200
 v228:=Tryz.zeroValue200
 t229:=Tryz.underlying201
 a229:=Tryz.isAgg201
 z229:=Tryz.sizeOf201
 v229:=Tryz.zeroValue201
}
theorem VA:RY ak 87:=fun B3 off A ss w hH amw l8=>Any.slices_Sort_string RZ B3 off A ss w hH amw l8
def afz:Go.Shelf.Ren:=⟨fun|6=>80|15=>102|14=>101|28=>132|29=>133|20=>124|21=>125|22=>126|23=>127|24=>128|25=>129|26=>130|27=>131|46=>147|47=>148|48=>149|49=>150|50=>151|57=>157|n=>n,fun|22=>25|24=>26|25=>99|3=>3|39=>144|0=>0|53=>120|55=>135|4=>4|46=>173|45=>172|50=>177|5=>5|9=>9|66=>192|70=>196|76=>200|77=>201|n=>n,fun n=>n⟩
theorem aa7:SlLaysF.n6 ak afz:={
 mixed:=mo
 f6:=⟨"slices.SortFunc[[]gouache/api.Digest,gouache/api.Digest]",dU,Tryz.func80.trans (aN some U)⟩
 f14:=⟨"slices.pdqsortCmpFunc[gouache/api.Digest]",dU,Tryz.func101.trans (aN some U)⟩
 f15:=Tryz.func102.trans (aN some U)
 f20:=⟨"slices.insertionSortCmpFunc[gouache/api.Digest]",dU,Tryz.func124.trans (aN some U)⟩
 f21:=⟨"slices.heapSortCmpFunc[gouache/api.Digest]",dU,Tryz.func125.trans (aN some U)⟩
 f22:=⟨"slices.breakPatternsCmpFunc[gouache/api.Digest]",dU,Tryz.func126.trans (aN some U)⟩
 f23:=⟨"slices.choosePivotCmpFunc[gouache/api.Digest]",dU,Tryz.func127.trans (aN some U)⟩
 f24:=⟨"slices.reverseRangeCmpFunc[gouache/api.Digest]",dU,Tryz.func128.trans (aN some U)⟩
 f25:=⟨"slices.partialInsertionSortCmpFunc[gouache/api.Digest]",dU,Tryz.func129.trans (aN some U)⟩
 f26:=⟨"slices.partitionEqualCmpFunc[gouache/api.Digest]",dU,Tryz.func130.trans (aN some U)⟩
 f27:=⟨"slices.partitionCmpFunc[gouache/api.Digest]",dU,Tryz.func131.trans (aN some U)⟩
 f28:=Tryz.func132.trans (aN some U)
 f29:=Tryz.func133.trans (aN some U)
 f46:=⟨"slices.siftDownCmpFunc[gouache/api.Digest]",dU,Tryz.func147.trans (aN some U)⟩
 f47:=Tryz.func148.trans (aN some U)
 f48:=Tryz.func149.trans (aN some U)
 f49:=⟨"slices.medianAdjacentCmpFunc[gouache/api.Digest]",dU,Tryz.func150.trans (aN some U)⟩
 f50:=⟨"slices.medianCmpFunc[gouache/api.Digest]",dU,Tryz.func151.trans (aN some U)⟩
 f57:=⟨"slices.order2CmpFunc[gouache/api.Digest]",dU,Tryz.func157.trans (aN some U)⟩
 t0:=Tryz.underlying0
 a3:=Tryz.isAgg3
 z4:=Tryz.sizeOf4
 v5:=Tryz.zeroValue5
 t22:=Tryz.underlying25
 z24:=Tryz.sizeOf26
 t39:=Tryz.underlying144
 t45:=Tryz.underlying172
 t46:=Tryz.underlying173
 t50:=Tryz.underlying177
 t53:=Tryz.underlying120
 t55:=Tryz.underlying135
 t66:=Tryz.underlying192
 t70:=Tryz.underlying196
 t76:=Tryz.underlying200
 t77:=Tryz.underlying201
 a0:=Tryz.isAgg0
 z0:=Tryz.sizeOf0
 v0:=Tryz.zeroValue0
 t3:=Tryz.underlying3
 z3:=Tryz.sizeOf3
 v3:=Tryz.zeroValue3
 t4:=Tryz.underlying4
 a4:=Tryz.isAgg4
 v4:=Tryz.zeroValue4
 t5:=Tryz.underlying5
 a5:=Tryz.isAgg5
 z5:=Tryz.sizeOf5
 t9:=Tryz.underlying9
 a9:=Tryz.isAgg9
 z9:=Tryz.sizeOf9
 v9:=Tryz.zeroValue9
 a22:=Tryz.isAgg25
 z22:=Tryz.sizeOf25
 v22:=Tryz.zeroValue25
 a24:=Tryz.isAgg26
 t25:=Tryz.underlying99
 a25:=Tryz.isAgg99
 z25:=Tryz.sizeOf99
 v25:=Tryz.zeroValue99
 a39:=Tryz.isAgg144
 z39:=Tryz.sizeOf144
 v39:=Tryz.zeroValue144
 a45:=Tryz.isAgg172
 z45:=Tryz.sizeOf172
 v45:=Tryz.zeroValue172
 a46:=Tryz.isAgg173
 z46:=Tryz.sizeOf173
 v46:=Tryz.zeroValue173
 a50:=Tryz.isAgg177
 z50:=Tryz.sizeOf177
 v50:=Tryz.zeroValue177
 a53:=Tryz.isAgg120
 z53:=Tryz.sizeOf120
 v53:=Tryz.zeroValue120
 a55:=Tryz.isAgg135
 z55:=Tryz.sizeOf135
 v55:=Tryz.zeroValue135
 a66:=Tryz.isAgg192
 z66:=Tryz.sizeOf192
 v66:=Tryz.zeroValue192
 a70:=Tryz.isAgg196
 z70:=Tryz.sizeOf196
 v70:=Tryz.zeroValue196
 a76:=Tryz.isAgg200
 z76:=Tryz.sizeOf200
 v76:=Tryz.zeroValue200
 a77:=Tryz.isAgg201
 z77:=Tryz.sizeOf201
 v77:=Tryz.zeroValue201
}
theorem YU(a1 a2:Value)(i:Int)(hm:World):(Instr.field 95 (.agg #[a1,a2,.int .i64 i]) 2).run ak hm= .ok (.int .i64 i) hm:=by
 have u95:=Tryz.underlying95;have w3:=Tryz.isAgg3;simp[Instr.field,dD u95,asAgg];simp[part,w3,Sem.run_bind]
theorem afA(n:Int):IntKind.i64.wrap n=wrap64 n:=IntWalk.i64_left n
set_option maxHeartbeats 1000000 in
theorem OP(hm:World)(bb so b3 s3 mb:Nat)(sx sy a1 a2 b1 b2:Value)(i j:Int)(N:hm.cell? ⟨bb,so,none⟩=some (.pointer (some ⟨b3,s3,none⟩)))(B:hm.cell? ⟨b3,s3+2,none⟩=some (.map (some mb)))
  (l1:∀n,(Instr.lookup 79 (.map (some mb)) sx false).run ak (hm.drewN n)= .ok (.agg #[a1,a2,.int .i64 i]) (hm.drewN n)) (l2:∀n,(Instr.lookup 79 (.map (some mb)) sy false).run ak (hm.drewN n)= .ok (.agg #[b1,b2,.int .i64 j]) (hm.drewN n)):
  Calls ak 56 #[sx,sy,.pointer (some ⟨bb,so,none⟩)] hm fun e w'=>e= .returned (.int .i64 (IntKind.i64.wrap (i-j)))/\∃q,w'=hm.drewN q:=by
 have f1:=YU a1 a2 i;have f2:=YU b1 b2 j
 go_enter Tryz.func56,Tryz.ntmps56
 go_wp2
 go_quiet (fail)
 go_wp2
 go_ret
 refine⟨?_,nq,rfl⟩;show Ending.returned (.int .i64 (wrap64 (i-j)))=_;rw[afA]
theorem G3(x:L)(d:rs):jd (.str x) d=true↔d= .str x:=by
 cases d<;>simp[jd,fV];exact eq_comm
theorem G4{x:L}{d:rs}(h:d≠ .str x):jd (.str x) d=false:=by
 cases q:jd (.str x) d with
 |false=>rfl
 |true=>exact absurd ((G3 x d).1 q) h
open Classical in
theorem gx(x:L)(e:rs×rs)(Q:ae):dr (.str x) (e::Q)=if e.1= .str x then some e.2 else dr (.str x) Q:=by
 simp only[dr];by_cases h:e.1= .str x
 . rw[aH h,(G3 x e.1).2 h]
 . rw[aI h,G4 h]
open Classical in
theorem wO(x:L)(v:rs)(e:rs×rs)(Q:ae):ir (.str x) v (e::Q)=if e.1= .str x then(.str x,v)::Q else e::ir (.str x) v Q:=by
 simp only[ir];by_cases h:e.1= .str x
 . rw[aH h,(G3 x e.1).2 h]
 . rw[aI h,G4 h]
open Classical in
theorem wP(x:L)(e:rs×rs)(Q:ae):lT (.str x) (e::Q)=if e.1= .str x then Q else e::lT (.str x) Q:=by
 simp only[lT];by_cases h:e.1= .str x
 . rw[aH h,(G3 x e.1).2 h]
 . rw[aI h,G4 h]
theorem Dz(x y:L)(v:rs):∀Q:ae,dr (.str x) (ir (.str y) v Q)=if x=y then some v else dr (.str x) Q
 | []=>by
   show dr (.str x) [(.str y,v)]=_;rw[gx];by_cases h:x=y
   . rw[aH h,aH (by rw[h])]
   . rw[aI h,aI (by intro q;simp only[rs.str.injEq]at q;exact h q.symm)]
 |e::Q=>by
  rw[wO];by_cases he:e.1= .str y
  . rw[aH he,gx,gx];by_cases h:x=y
    . rw[aH h,aH (by rw[h])]
    . rw[aI h,aI (by intro q;simp only[rs.str.injEq]at q;exact h q.symm),aI (by rw[he];intro q;simp only[rs.str.injEq]at q;exact h q.symm)]
  . rw[aI he,gx,gx,Dz x y v Q];by_cases h:x=y
    . subst h;rw[aI he,aH rfl,aH rfl]
    . rw[aI h,aI h]
theorem vK{y:L}(v:rs):∀{Q:ae},dr (.str y) Q=none->ir (.str y) v Q=Q++[(.str y,v)]
 | [],_=>rfl
 |e::Q,h=>by
  rw[gx]at h;split at h
  . cases h
  . rename_i he;rw[wO,aI he,vK v h];rfl
def YV(Q:ae):Prop:=∀x,dr (.str x) Q=none\/uC Q x
def jR(Q:ae)(x:L):Int:=match dr (.str x) Q with
 |some (.agg [_,_,.int _ k])=>k
 |_=>0
theorem R1{b:Nat}{gj:Array MapEntry}{eD:Nat}{φ:Nat->Option (Array Value)}{Q:ae}(hr:jX φ none Q gj.toList eD)(w7:YV Q)(x:L):
  ∃a1 a2,∀hm:World,hm.heap[b]? =some (.map gj eD)->(Instr.lookup 79 (.map (some b)) (Value.string ⟨x.toArray⟩) false).run ak hm= .ok (.agg #[a1,a2,.int .i64 (jR Q x)]) hm:=by
 have hu:Tryz.prog.underlying 79=some (.map 26 95):=by kernel_rfl
 have hk:Tryz.prog.underlying 26=some .string:=by kernel_rfl
 have UL:=hr.look (kd:=.string) (k:=.str x) (k':=Value.string ⟨x.toArray⟩) rfl rfl rfl;have Gj:∀hm:World,(Instr.checkKey gj.isEmpty 10000 26 (Value.string ⟨x.toArray⟩)).run ak hm= .ok () hm:=fun hm=>xk (E:=⟨fun _=>none,fun _=>0,φ⟩) 9999 hk (k:=.str x) rfl rfl;rcases w7 x with J|⟨d,D,k,J⟩
 . rw[J]at UL;have hz:zeroOf ak 95=some (.agg [.str [],.dj none 0 0 0,.int .i64 0]):=by kernel_rfl
   have NU:∀hm:World,(zeroValue 95).run ak hm= .ok (.agg #[.string ⟨#[]⟩,.slice none 0 0,.int .i64 0]) hm:=by
    intro hm;exact Tryz.zeroValue95 hm
   refine⟨.string ⟨#[]⟩,.slice none 0 0,fun hm hb=>?_⟩;have uA:=fu (P:=ak) hb (by intro _ _ _ q;cases q);have hn:jR Q x=0:=by unfold jR;rw[J]
   rw[hn];simp only[Instr.lookup,Sem.run_bind,dD hu,Result.andThen_ok,Sem.run_pure,uA,Gj,gJ hk UL,NU];rfl
 . rw[J]at UL;obtain⟨j,v',q1,q2⟩:=UL;have hn:jR Q x=k:=by unfold jR;rw[J];rfl
   obtain⟨vs,hv,rfl⟩:=q2;obtain⟨y1,ys1,_,r1,hv,rfl⟩:=hv;obtain⟨y2,ys2,_,r2,hv,rfl⟩:=hv;obtain⟨y3,ys3,_,r3,hv,rfl⟩:=hv;have hv:ys3=[]:=hv;subst hv;have r3:y3= .int .i64 k:=r3;subst r3;refine⟨y1,y2,fun hm hb=>?_⟩;have uA:=fu (P:=ak) hb (by intro _ _ _ q;cases q);rw[hn];simp only[Instr.lookup,Sem.run_bind,dD hu,Result.andThen_ok,Sem.run_pure,uA,Gj,gJ hk q1];rfl
def cfN(Q:ae)(x y:L):Int:=IntKind.i64.wrap (jR Q x-jR Q y)
theorem G5{Q:ae}(hn:∀x,0<=jR Q x/\jR Q x<1000000000)(x y:L):ltOf (cfN Q) x y=decide (jR Q x<jR Q y):=by
 unfold ltOf cfN;have N:=hn x;have B:=hn y;rw[fK K K];exact decide_eq_decide.2 K
theorem VB{Q:ae}(hn:∀x,0<=jR Q x/\jR Q x<1000000000):SWO (ltOf (cfN Q)) where
 irrefl x:=by rw[G5 hn];simp
 trans x y z N B:=by rw[G5 hn]at *;simp at *;omega
 ntrans x y z N B:=by rw[G5 hn]at *;simp at *;omega
theorem DA{α:Type}{f:α->Int}:∀{a b:List α},List.Perm a b->a.Pairwise (fun x y=>¬f y<f x)->b.Pairwise (fun x y=>f x<f y)->a=b
 | [],b,hp,_,_=>(hp.symm.eq_nil).symm
 |x::a,[],hp,_,_=>absurd hp.length_eq (by simp)
 |x::a,y::b,hp,N,B=>by
  have G:x∈y::b:=hp.mem_iff.1 (by simp);have hy:y∈x::a:=hp.mem_iff.2 (by simp);have e:x=y:=by
   rcases aF.1 G with h|h
   . exact h
   . have q1:=(List.pairwise_cons.1 B).1 x h;rcases aF.1 hy with h'|h'
     . exact h'.symm
     . exact absurd q1 ((List.pairwise_cons.1 N).1 y h')
  subst e;rw[DA (List.perm_cons x |>.1 hp) (List.pairwise_cons.1 N).2 (List.pairwise_cons.1 B).2]
theorem ya{w:World}{b o m:Nat}{dk:Array (L)}{os:Array Obj}{k:Nat}(hk:k≠b){ob:Obj}(h:w.heap[k]? =some ob):(sortWorld encStr w b o m dk os).heap[k]? =some ob:=by
 have fI:k<w.heap.size:=(aQ.1 h).1;show((putRow encStr (Sort.ahead w m) b o dk).heap++os)[k]? =_;rw[bS (by rw[size_putRow];exact fI)];show(w.heap.modify b (Sort.onCells _))[k]? =_;rw[cq,aI (fun z=>hk z.symm)];exact h
theorem MU{hm:World}{b o:Nat}{c:Array Value}{el:TypeId}{fz:Nat×Nat}{v:Value}(h:hm.heap[b]? =some (.cells c el fz))(I:c[o]? =some v):hm.cell? ⟨b,o,none⟩=some v:=by
 unfold World.cell?;simp only[h];exact I
theorem aa8{h:H lf}{n m bx st c cp:Nat}{C:ag}{Q:ae}(ks zs:List (L))(W:h.get m=some (.deep (strs ks)))(y8:m<fP)(hbx:h.get bx=some (.cells [.ptr (some (st,0))]))(BC:h.get st=some (.cells C))(nX:C[2]? =some (.map (some c)))(Uc:h.get c=some (.dI none Q))
  (w7:YV Q) (hn:∀x,0<=jR Q x/\jR Q x<1000000000) (h0:0<ks.length) (Qj:ks.length<1000000) (hp:List.Perm zs ks) (hz:zs.Pairwise fun a b=>jR Q a<jR Q b) (n1:m≠bx) (n2:m≠st) (n3:m≠c):
  cW ak 80 [.dj (some (m,0)) ks.length cp 1,.fn (.func 56) [] [.ptr (some (bx,0))]] h n (.ew []) (h.set m (some (.deep (strs zs)))) n:=by
 refine Dy (ss:=ks) (zs:=zs) hp.length_eq W y8 h0 rfl Qj fun E w b o A Je g D e1 hH hb=>?_;obtain⟨y,ys,⟨f',a',c',rf,ra,rc,rfl⟩,D,rfl⟩:=D;have D:ys=[]:=D;subst D;have rf:f'= .func 56:=rf;subst rf;have ra:a'=[]:=ra;subst ra;obtain⟨z,zs',⟨bb,so,Lv,rfl⟩,rc,rfl⟩:=rc;have rc:zs'=[]:=rc;subst rc;have uz:eE h m:=⟨_,W,rfl⟩;have apart:∀j x t,m≠j->h.get j≠none->E.ι j=some (x,t)->x≠b:=fun j x t fU hj he q=>by
  subst q;exact g.inj m j x o t fU uz hj e1 he
 obtain⟨bb',so',q1,cb,elb,fzb,yO,_,_,H8⟩:=g.rel bx _ hbx;rw[Lv]at q1;simp only[an,aB]at q1;obtain⟨rfl,rfl⟩:=q1;obtain⟨vb,hb3,b3,s3,YW,rfl⟩:=H8 0 _ rfl;obtain⟨b3',s3',q1,c3,el3,fz3,gi,_,_,jr⟩:=g.rel st _ BC;rw[YW]at q1;simp only[an,aB]at q1;obtain⟨rfl,rfl⟩:=q1;obtain⟨vm,yq,mb,hci,rfl⟩:=jr 2 _ nX;obtain⟨mb',gj,eD,q1,hmb,hmr⟩:=vf g Uc;rw[hci]at q1;simp only[an,aB,and_true]at q1;subst q1;have nb:bb≠b:=apart bx _ _ n1 (by rw[hbx];simp) Lv;have nst:b3≠b:=apart st _ _ n2 (by rw[BC];simp) YW;have nmb:mb≠b:=apart c _ _ n3 (by rw[Uc];simp) hci;have amy:CmpLays1 ak 56 #[.pointer (some ⟨bb,so+0,none⟩)] encStr (cfN Q) b o ks.toArray.size w:=by
  intro mm os dk hdk x y;obtain⟨a1,a2,l1⟩:=R1 hmr w7 x;obtain⟨b1,b2,l2⟩:=R1 hmr w7 y;have hW:=ya (m:=mm) (dk:=dk) (os:=os) (o:=o) nmb hmb;have N:=MU (ya (m:=mm) (dk:=dk) (os:=os) (o:=o) nb yO) hb3;have B:=MU (ya (m:=mm) (dk:=dk) (os:=os) (o:=o) nst gi) yq;refine(OP _ bb (so+0) b3 (s3+0) mb (encStr x) (encStr y) a1 a2 b1 b2 (jR Q x) (jR Q y) N (by simpa using B) (fun n=>l1 _ hW) (fun n=>l2 _ hW)).mono fun e w' ⟨he,q,hq⟩=>⟨he,q,#[],?_⟩;rw[hq,grow_empty]
 have eg:∀args w,(callFunc 56 args).run ak w= .ok (.enter 56 args) w:=enters_of Tryz.func56 U rfl;have hS:=Any.slices_SortFunc aa7 encStr (fun _=>rfl) (cfN Q) (VB hn) 56 #[.pointer (some ⟨bb,so+0,none⟩)] b o A ks.toArray w eg amy hH hb (by simp;omega);refine hS.mono fun e w' ⟨he,d',nn,os,PD,dO,hw⟩=>⟨he,nn,os,?_⟩;have hd:d'.toList=zs:=by
  obtain⟨p1,p2,p3⟩:=PD;have e1:(d'.extract 0 ks.toArray.size).toList=d'.toList:=by rw[<- p1];simp
  have e2:(ks.toArray.extract 0 ks.toArray.size).toList=ks:=by simp
  rw[e1,e2]at p3;refine DA (f:=jR Q) (p3.trans hp.symm) ?_ hz;rw[List.pairwise_iff_getElem];intro i j hi hj PA;have:=dO i j (aX _) PA (by simp at hj p1 ⊢;omega);rw[G5 hn]at this;have:=aJ this;rw[getElem!_pos d' j (by simpa using hj),getElem!_pos d' i (by simpa using hi)]at this;simpa using this
 have:d'=zs.toArray:=by rw[<- hd]
 rw[hw,this];rfl
end Go.Proofs.YtfihojpgobmmdaaGreatDoor
