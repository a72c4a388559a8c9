/- The Doc laws: DocHead, walked; a layer that comes in. No conditions. -/
import Derived.Test.YtmjggdmekboefaaGreatDoorJointThirteen
import Derived.Test.YtmjggdmekboefaaGreatDoorJointFourteen
import Derived.Test.YtmjggdmekboefaaGreatDoorRows
import Derived.Test.YtmjggdmekboefaaGreatDoorJointSix
import Derived.Test.YtmjggdmekboefaaGreatDoorJointSeven
import Derived.LaidMore
import Derived.MakeChecks
set_option linter.unusedVariables false
set_option linter.unusedSimpArgs false
set_option linter.unusedSectionVars false
namespace Go.Proofs.YtmjggdmekboefaaGreatDoor
open Go Go.Eng
set_option maxRecDepth 100000
open Sha (gS gR hSR)
theorem rdG_is (s:List UInt8) (hs:s.length ≤ 1500000):((okY (rdG [.str s]).1∧headF (rdG [.str s]).1=s∧(rdG [.str s]).2=0) ∨ ((rdG [.str s]).1=zLay∧(rdG [.str s]).2=11∧∀ l0,okL l0→headF l0 ≠ s))∧DeepTo Tryz.prog 13 [.str s] (.tup [(rdG [.str s]).1.v,iX (rdG [.str s]).2]):=by
 have hx:∃ p:List UInt8 × Lay × Int,[V.str s]=[.str p.1]∧((okY p.2.1∧headF p.2.1=p.1∧p.2.2=0) ∨ (p.2.1=zLay∧p.2.2=11∧∀ l0,okL l0→headF l0 ≠ p.1))∧DeepTo Tryz.prog 13 [.str p.1] (.tup [p.2.1.v,iX p.2.2]):=by
  obtain ⟨y,e,h1,h2⟩:=readX s hs
  exact ⟨(s,y,e),rfl,h1,h2⟩
 have h:=Classical.choose_spec hx
 have e:rdG [.str s]=(Classical.choose hx).2:=by unfold rdG; rw [dif_pos hx]
 have e2:s=(Classical.choose hx).1:=V.str.inj (List.cons.inj h.1).1
 rw [← e,← e2] at h
 exact h.2
theorem okZ:okL zLay:=⟨Nat.zero_le _,Nat.zero_le _,Nat.zero_le _,Nat.zero_le _,Nat.zero_le _⟩
theorem bare_ok {s:List UInt8} (hs:s.length ≤ 1500000):rdC2 s∧okL (rdG [.str s]).1:=by
 obtain ⟨h1,h2⟩:=rdG_is s hs
 rcases h1 with ⟨h,_,_⟩ | ⟨h,_,_⟩
 · refine ⟨?_,h.tookL⟩
   have e:bare (rdG [.str s]).1=(rdG [.str s]).1:=by
    have h1:=h.con
    have h2:=h.msk
    generalize (rdG [.str s]).1=y at h1 h2
    cases y
    simp only at h1 h2
    subst h1 h2
    rfl
   show DeepTo _ _ _ (.tup [(bare (rdG [.str s]).1).v,_])
   rw [e]; exact h2
 · refine ⟨?_,by rw [h]; exact okZ⟩
   show DeepTo _ _ _ (.tup [(bare (rdG [.str s]).1).v,_])
   rw [h] at h2 ⊢; exact h2
theorem beqB_n (a:List UInt8):V.bool (!beqB a a)=V.bool false:=by rw [beqB_eq,beq_self_eq_true]; rfl
theorem lh_round (l:Lay) (n:Int) (h:smL l) (hc:l.con.length ≤ 1000000) (hm:l.msk.length ≤ 1000000):∃ k,CtrWOk Tryz.prog (Wlh l (headF l) (dkF l) n k)∧∀ (i:Int) (j:Nat),0 ≤ i∧i < 2→∀ a ∈ lhA l n (headF l) (dkF l) k i j (iW j),a:=by
 obtain ⟨hp,hl⟩:=headF_sm l h
 obtain ⟨k,hk,hr⟩:=restD n (headF l).length hp (by omega)
 have X:CtrWOk Tryz.prog (Wlh l (headF l) (dkF l) n k):=pinK (rhD l h.ok) (anyN_ok (pinK hr (pinK (headD l h.ok) (pinB_ok (dkD l h hc hm) (pinK (ryD l h hc hm) (anyN_ok (noW_ok _)))))))
 refine ⟨k,X,fun i j hi=>?_⟩
 have l2:(List.drop 0 (List.take k (headF l))).length ≤ 1500000:=by rw [List.drop_zero,List.length_take]; omega
 have l3:(headF l ++ [120]).length ≤ 1500000:=by rw [List.length_append]; simp only [List.length_cons,List.length_nil]; omega
 obtain ⟨c1,k1⟩:=bare_ok (s:=headF l) (by omega)
 obtain ⟨c2,k2⟩:=bare_ok l2
 obtain ⟨c3,k3⟩:=bare_ok l3
 obtain ⟨d1,_⟩:=rdG_is (headF l) (by omega)
 obtain ⟨d2,_⟩:=rdG_is _ l2
 obtain ⟨d3,_⟩:=rdG_is _ l3
 have f1:headF (rdG [.str (headF l)]).1=headF l∧(rdG [.str (headF l)]).2=0:=by
  rcases d1 with ⟨_,h1,h2⟩ | ⟨_,_,h1⟩
  · exact ⟨h1,h2⟩
  · exact absurd rfl (h1 l h.ok)
 have f2:(rdG [.str (List.drop 0 (List.take k (headF l)))]).1=zLay∧(rdG [.str (List.drop 0 (List.take k (headF l)))]).2=11:=by
  rcases d2 with ⟨h0,h1,_⟩ | ⟨h1,h2,_⟩
  · rw [List.drop_zero] at h1
    have h2:=headF_pre (x:=List.drop k (headF l)) (y:=[]) h0.tookL h.ok (by rw [List.drop_zero,h1,List.take_append_drop,List.append_nil])
    have h3:=congrArg List.length h2
    rw [List.length_drop] at h3
    simp only [List.length_nil] at h3
    omega
  · exact ⟨h1,h2⟩
 have f3:(rdG [.str (headF l ++ [120])]).1=zLay∧(rdG [.str (headF l ++ [120])]).2=11:=by
  rcases d3 with ⟨h0,h1,_⟩ | ⟨h1,h2,_⟩
  · have h2:=headF_pre (x:=[]) (y:=[120]) h0.tookL h.ok (by rw [h1,List.append_nil])
    cases h2
  · exact ⟨h1,h2⟩
 have g1:DeepTo Tryz.prog 16 [(bare (rdG [.str (headF l)]).1).v,(bare l).v] (.bool true):=llD k1 h.ok f1.1
 have g2:DeepTo Tryz.prog 16 [(bare (rdG [.str (List.drop 0 (List.take k (headF l)))]).1).v,zLay.v] (.bool true):=by
  rw [f2.1]; exact llD okZ okZ rfl
 have g3:DeepTo Tryz.prog 16 [(bare (rdG [.str (headF l ++ [120])]).1).v,zLay.v] (.bool true):=by
  rw [f3.1]; exact llD okZ okZ rfl
 have hb:=beqB_n (headF l)
 have hb2:=beqB_n (dkF l)
 refine fm hi (fm rfl (fm c1 (fm hi (fm rfl (fm ⟨Int.natCast_nonneg _,by simp only [hOn]; omega⟩ (fm c2 (fm (by omega) (fm c3 (fm hi (fm rfl (fm hb (fm hi (fm rfl (fm rfl (fm rfl (fm hi (fm rfl (fm hb2 (fm ?_ (fm g1 (fm ?_ (fm ?_ (fm g2 (fm g3 (fm1 rfl)))))))))))))))))))))))))
 · rw [f1.2]; rfl
 · rw [f2.2]; rfl
 · rw [f3.2]; rfl
theorem fewF_sm (l:Lay):smL (fewF l)∧(fewF l).con.length ≤ 1000000∧(fewF l).msk.length ≤ 1000000:=by
 have t:∀ {α:Type} (k m:Nat) (x:List α),k ≤ m→(x.take k).length ≤ m:=fun k m x h=>by rw [List.length_take]; omega
 exact ⟨⟨t 20 _ _ (by decide),t 6 _ _ (by decide),t 30 _ _ (by decide),t 30 _ _ (by decide),t 70 _ _ (by decide)⟩,t 3 _ _ (by decide),t 3 _ _ (by decide)⟩
theorem layF_tl (s:S8):(layF s).con.length ≤ 1000000∧(layF s).msk.length ≤ 1000000:=by
 constructor
 · show (if kdF s=1 then smallF [s.s4,s.s5,s.s6,s.s7,s.s2] else []).length ≤ _
   split
   · exact Nat.le_trans (smallF_len _) (by decide)
   · exact Nat.zero_le _
 · show (if an s.s3 192=64 then smallF [s.s3,s.s4,s.s5] else []).length ≤ _
   split
   · exact Nat.le_trans (smallF_len _) (by decide)
   · exact Nat.zero_le _
theorem lhT (raw:Lay) (s:S8) (n:Int):TG Tryz.prog 3 Tryz.f4.ntmps cdLh (startSt [raw.v,.agg s.cs,iX n] (hSR gS gR) 3) (RetG Tryz.prog 3 Tryz.f4 fun u _ _=>u= .bool true):=by
 obtain ⟨a1,a2,a3⟩:=fewF_sm raw
 have b1:=layF_sm s
 obtain ⟨b2,b3⟩:=layF_tl s
 have hf:=fewD raw
 have hl:=layD s
 generalize fewF raw=a at *
 generalize layF s=b at *
 refine isE1 3 (pinK hf (pinK hl mT_ok)) (lh_1 raw a b s n) (fm rfl (fm1 rfl)) ?_
 obtain ⟨k,X,hA⟩:=lh_round a n a1 a2 a3
 obtain ⟨k',X',hA'⟩:=lh_round b n b1 b2 b3
 refine loopF (noW_ok _) 0 _ [2,7,8,9] (fun i:Nat=>2 - i) (· ≤ 2) (fun i=>sLh n a b [(9,iW i)]) 0 (Nat.zero_le _) (lh_2 a b n) all_nil .refl fun i hi=>?_
 rcases (by omega:i=0 ∨ i=1 ∨ i=2) with rfl | rfl | rfl
 · exact ⟨_,X,_,_,_,lh_3 a b n _ _ k,gone (g0 ⟨hA 0 1 (by decide),1,by decide,by decide,.refl⟩)⟩
 · exact ⟨_,X',_,_,_,lh_4 a b n _ _ k',gone (g0 ⟨hA' 1 2 (by decide),2,by decide,by decide,.refl⟩)⟩
 · exact ⟨_,noW_ok _,_,_,_,lh_5 a b n,gone (g0 ⟨all_nil,rfl,retE (noW_ok _) (lh_6 a b n) (gone (g0 ⟨all_nil,_,_,_,rfl,rfl⟩))⟩)⟩
abbrev tI:Ty:=.int .i64
abbrev tU:Ty:=.int .u8
abbrev tPx:Ty:=.agg [tU,tU,tU,tU]
abbrev tTl:Ty:=.agg [.agg [tI,tI],.agg (List.replicate 64 tPx)]
abbrev tLy:Ty:=.agg [tI,tI,.str,.bool,tI,tI,.bool,.agg [tI,tI,tI,tI,tI,tI,tI],tI,.slc tI,tI,.agg [tI,tI,.slc tI,tI,tI,.slc tI],tPx,.slc (.agg [tI,tI]),.agg [.slc tTl],.bool,.agg [.slc tTl]]
def Lay.ds (l:Lay):List D:=[.int .i64 l.id,.int .i64 l.kd,.str l.nm,.bool l.hid,.int .i64 l.op,.int .i64 l.md,.bool l.clip,.int .i64 l.pl.a,.int .i64 l.pl.b,.int .i64 l.pl.c,.int .i64 l.pl.d,.int .i64 l.pl.e,.int .i64 l.pl.f,.int .i64 l.pl.n,.int .i64 l.sp,.lst l.kids.length (isD l.kids),.int .i64 l.of,.int .i64 l.f.k,.int .i64 l.f.r,.lst l.f.ker.length (isD l.f.ker),.int .i64 l.f.dv,.int .i64 l.f.vl,.lst l.f.cu.length (isD l.f.cu),.int .u8 l.fi.r,.int .u8 l.fi.g,.int .u8 l.fi.b,.int .u8 l.fi.a,.lst l.pth.length (ptD l.pth),.lst l.con.length (tlD l.con),.bool l.hm,.lst l.msk.length (tlD l.msk)]
theorem rows_ints:∀ {rows:List (List D)},(∀ r ∈ rows,Ty.ok tI r)→∃ l:List Int,rows.flatten=isD l∧l.length=rows.length
 | [],_=>⟨[],rfl,rfl⟩
 | r :: rows,h=>by
   obtain ⟨l,h1,h2⟩:=rows_ints (rows:=rows) fun x hx=>h x (List.mem_cons_of_mem _ hx)
   obtain ⟨s,rfl,_⟩:=h r (by simp)
   exact ⟨s :: l,by rw [List.flatten_cons,h1]; rfl,by simp [h2]⟩
theorem rows_pts:∀ {rows:List (List D)},(∀ r ∈ rows,Ty.ok (.agg [tI,tI]) r)→∃ l:List (Int × Int),rows.flatten=ptD l∧l.length=rows.length
 | [],_=>⟨[],rfl,rfl⟩
 | r :: rows,h=>by
   obtain ⟨l,h1,h2⟩:=rows_pts (rows:=rows) fun x hx=>h x (List.mem_cons_of_mem _ hx)
   obtain ⟨_,_,rfl,⟨x,rfl,_⟩,_,_,rfl,⟨y,rfl,_⟩,rfl⟩:=h r (by simp)
   exact ⟨(x,y) :: l,by rw [List.flatten_cons,h1]; rfl,by simp [h2]⟩
theorem px_in:∀ (n:Nat) {b:List D},Ty.oks (List.replicate n tPx) b→∃ ks:List Int,ks.length=4 * n∧b=ks.map (D.int .u8)
 | 0,b,h=>⟨[],rfl,h⟩
 | n+1,b,h=>by
   obtain ⟨_,b',rfl,⟨_,_,rfl,⟨x,rfl,_⟩,_,_,rfl,⟨y,rfl,_⟩,_,_,rfl,⟨z,rfl,_⟩,_,_,rfl,⟨w,rfl,_⟩,rfl⟩,hb⟩:=h
   obtain ⟨ks,h1,rfl⟩:=px_in n hb
   exact ⟨x :: y :: z :: w :: ks,by simp only [List.length_cons,h1]; omega,rfl⟩
theorem rows_tls:∀ {rows:List (List D)},(∀ r ∈ rows,Ty.ok tTl r)→∃ l:List Tl,rows.flatten=tlD l∧l.length=rows.length
 | [],_=>⟨[],rfl,rfl⟩
 | r :: rows,h=>by
   obtain ⟨l,h1,h2⟩:=rows_tls (rows:=rows) fun x hx=>h x (List.mem_cons_of_mem _ hx)
   obtain ⟨_,_,rfl,⟨_,_,rfl,⟨x,rfl,_⟩,_,_,rfl,⟨y,rfl,_⟩,rfl⟩,_,_,rfl,hp,rfl⟩:=h r (by simp)
   obtain ⟨ks,h3,rfl⟩:=px_in 64 hp
   have e:ks.map (D.int .u8)=tcs fun j=>ks.getD j 0:=by
    unfold tcs
    refine List.ext_getElem? fun j=>?_
    rw [List.getElem?_map,List.getElem?_map]
    by_cases hj:j < 256
    · rw [List.getElem?_range hj]
      show _=some (D.int .u8 (ks.getD j 0))
      rw [List.getD_eq_getElem?_getD,List.getElem?_eq_getElem (by omega)]; rfl
    · rw [List.getElem?_eq_none (by omega),List.getElem?_eq_none (by simp; omega)]; rfl
   refine ⟨⟨x,y,fun j=>ks.getD j 0⟩ :: l,?_,by simp [h2]⟩
   rw [List.flatten_cons,h1,e]
   rfl
theorem slc_ints {r:List D} (h:Ty.ok (.slc tI) r):∃ l:List Int,r=[.lst l.length (isD l)]:=by
 obtain ⟨rows,rfl,_,hr⟩:=h
 obtain ⟨l,h1,h2⟩:=rows_ints hr
 exact ⟨l,by rw [h1,h2]⟩
theorem slc_pts {r:List D} (h:Ty.ok (.slc (.agg [tI,tI])) r):∃ l:List (Int × Int),r=[.lst l.length (ptD l)]:=by
 obtain ⟨rows,rfl,_,hr⟩:=h
 obtain ⟨l,h1,h2⟩:=rows_pts hr
 exact ⟨l,by rw [h1,h2]⟩
theorem slc_tls {r:List D} (h:Ty.ok (.agg [.slc tTl]) r):∃ l:List Tl,r=[.lst l.length (tlD l)]:=by
 obtain ⟨_,_,rfl,⟨rows,rfl,_,hr⟩,rfl⟩:=h
 obtain ⟨l,h1,h2⟩:=rows_tls hr
 exact ⟨l,by rw [h1,h2]; rfl⟩
theorem lay_in {r:List D} (h:Ty.ok tLy r):∃ l:Lay,r=l.ds:=by
 obtain ⟨_,_,rfl,⟨i0,rfl,_⟩,_,_,rfl,⟨i1,rfl,_⟩,_,_,rfl,⟨i2,rfl,_⟩,_,_,rfl,⟨i3,rfl⟩,_,_,rfl,⟨i4,rfl,_⟩,_,_,rfl,⟨i5,rfl,_⟩,_,_,rfl,⟨i6,rfl⟩,_,_,rfl,
  ⟨_,_,rfl,⟨p1,rfl,_⟩,_,_,rfl,⟨p2,rfl,_⟩,_,_,rfl,⟨p3,rfl,_⟩,_,_,rfl,⟨p4,rfl,_⟩,_,_,rfl,⟨p5,rfl,_⟩,_,_,rfl,⟨p6,rfl,_⟩,_,_,rfl,⟨p7,rfl,_⟩,rfl⟩,
  _,_,rfl,⟨i8,rfl,_⟩,_,_,rfl,h9,_,_,rfl,⟨ia,rfl,_⟩,_,_,rfl,
  ⟨_,_,rfl,⟨f1,rfl,_⟩,_,_,rfl,⟨f2,rfl,_⟩,_,_,rfl,h3,_,_,rfl,⟨f4,rfl,_⟩,_,_,rfl,⟨f5,rfl,_⟩,_,_,rfl,h6,rfl⟩,
  _,_,rfl,⟨_,_,rfl,⟨c1,rfl,_⟩,_,_,rfl,⟨c2,rfl,_⟩,_,_,rfl,⟨c3,rfl,_⟩,_,_,rfl,⟨c4,rfl,_⟩,rfl⟩,_,_,rfl,hp,_,_,rfl,ht,_,_,rfl,⟨im,rfl⟩,_,_,rfl,hm,rfl⟩:=h
 obtain ⟨l1,rfl⟩:=slc_ints h9
 obtain ⟨l2,rfl⟩:=slc_ints h3
 obtain ⟨l3,rfl⟩:=slc_ints h6
 obtain ⟨l4,rfl⟩:=slc_pts hp
 obtain ⟨l5,rfl⟩:=slc_tls ht
 obtain ⟨l6,rfl⟩:=slc_tls hm
 exact ⟨⟨i0,i1,i2,i3,i4,i5,i6,⟨p1,p2,p3,p4,p5,p6,p7⟩,i8,l1,ia,⟨f1,f2,l2,f4,f5,l3⟩,⟨c1,c2,c3,c4⟩,l4,l5,im,l6⟩,rfl⟩
end Go.Proofs.YtmjggdmekboefaaGreatDoor
namespace Go.Proofs.YtmjggdmekboefaaGreatDoor.Sha
open Go Go.Eng Go.ChangeShapes Go.WideShapes Go.RowKit
theorem gRound:Tryz.prog.globalNamed "gouache/digest.round"=some 1:=by kernel_rfl
theorem gStart:Tryz.prog.globalNamed "gouache/digest.start"=some 0:=by kernel_rfl
abbrev laidL:List (String × DataW Unit):=[("gouache/digest.round",Rows.laid_gouache_digest_round),("gouache/digest.start",Rows.laid_gouache_digest_start)]
def litsOf:List Int→List (DataW Unit):=fun l=>l.map fun n=>.lit (.int .u32 n)
theorem roundIs:(Rows.laid_gouache_digest_round:DataW Unit)= .agg (litsOf gR):=by kernel_rfl
theorem startIs:(Rows.laid_gouache_digest_start:DataW Unit)= .agg (litsOf gS):=by kernel_rfl
theorem words_in {w:World} {g t e n:Nat} {cs:Array Value} {fuel:Nat} {p:List MemPlace} {ks:List Int} {name:String} (hg:Tryz.prog.globalNamed name=some g) (hv:w.var? Tryz.prog name=some cs)
  (ht:Tryz.prog.underlying t=some (.array n e)) (he:Tryz.prog.underlying e=some (.int .u32)) (hc:Tryz.prog.cellsOf e=1)
  (h:DataW.trod (fun _=>()) Tryz.prog w 0 (fun _=>true) false fuel t cs.toList=some (.agg (litsOf ks),p)):∃ c el fz,w.heap[g]? =some (.cells c el fz)∧∀ (i:Nat) (x:Int),ks[i]? =some x→c[i]? =some (.int .u32 x):=by
 obtain ⟨xs,m,rfl,hx,hcl,hn,hel⟩:=DataW.trod_array ht h
 simp only [Prod.mk.injEq,DataW.agg.injEq] at hx
 have hlen:ks.length=n:=by
  have:=congrArg List.length hx.1
  simp only [litsOf,List.length_map] at this
  omega
 have key:∀ (i:Nat) (x:Int),ks[i]? =some x→cs[i]? =some (.int .u32 x):=by
  intro i x hi
  have hlt:i < ks.length:=(List.getElem?_eq_some_iff.1 hi).1
  have h1:=hel i (by omega)
  rw [List.getElem?_eq_getElem (by omega)] at h1
  obtain ⟨k,e1,e2,_⟩:=DataW.trod_int he h1
  have h2:=congrArg (fun l=>l[i]?) hx.1
  simp only [litsOf,List.getElem?_map,hi,Option.map_some] at h2
  rw [List.getElem?_eq_getElem (by omega),e2] at h2
  simp only [Option.map_some,Option.some.injEq,DataW.lit.injEq,Lit.int.injEq,true_and] at h2
  subst h2
  rw [hc,Nat.mul_one] at e1
  have h3:=congrArg (fun l=>l[0]?) e1
  simp only [List.getElem?_take,Nat.lt_add_one,if_true,List.getElem?_drop,Nat.add_zero,List.getElem?_cons_zero] at h3
  simpa using h3
 have hcell:=World.var?_cell hg hv 0
 have h00:0 < ks.length ∨ ks=[]:=by cases ks <;> simp
 unfold World.var? at hv
 rw [hg] at hv
 simp only [Option.bind_some] at hv
 split at hv
 · rename_i c el fz hb
   simp only [Option.some.injEq] at hv
   subst hv
   exact ⟨_,el,fz,hb,key⟩
 · cases hv
theorem tabs_in {w:World} (h:laidMetH Tryz.prog laidL w):(∃ c el fz,w.heap[0]? =some (.cells c el fz)∧∀ (i:Nat) (x:Int),gS[i]? =some x→c[i]? =some (.int .u32 x))∧
  ∃ c el fz,w.heap[1]? =some (.cells c el fz)∧∀ (i:Nat) (x:Int),gR[i]? =some x→c[i]? =some (.int .u32 x):=by
 rw [MakeChecks.laidMetH_plain _ _ _ (by kernel_rfl)] at h
 obtain ⟨ps,⟨g0,t0,cs0,f0,p0,q0,hg0,ht0,hv0,hd0,⟨g1,t1,cs1,f1,p1,q1,hg1,ht1,hv1,hd1,_,_⟩,_⟩,_,_⟩:=h
 obtain rfl:=Option.some.inj (gRound.symm.trans hg0)
 obtain rfl:=Option.some.inj (gStart.symm.trans hg1)
 rw [roundIs] at hd0
 rw [startIs] at hd1
 obtain rfl:=Option.some.inj ((show (Tryz.prog.globals[1]?).map (·.type)=some 158 by kernel_rfl).symm.trans ht0)
 obtain rfl:=Option.some.inj ((show (Tryz.prog.globals[0]?).map (·.type)=some 121 by kernel_rfl).symm.trans ht1)
 exact ⟨words_in gStart hv1 Tryz.underlying121 Tryz.underlying118 (by kernel_rfl) hd1,words_in gRound hv0 Tryz.underlying158 Tryz.underlying118 (by kernel_rfl) hd0⟩
def sizeW (w:World) (b:Nat):Nat:=match w.heap[b]? with
 | some (.cells c _ _)=>c.size
 | _=>0
def EW (w:World):Env:=⟨fun m=>gfind gtab m,sizeW w,phiW w⟩
theorem EW_ok {w:World} (hw:WG w) (h:laidMetH Tryz.prog laidL w):Eng.Good (EW w) (hSR gS gR) w∧Dom (EW w) 3∧∀ m,¬ wlive (hSR gS gR) m:=by
 obtain ⟨⟨c0,el0,fz0,k0,m0⟩,⟨c1,el1,fz1,k1,m1⟩⟩:=tabs_in h
 have hget:∀ m o,(hSR gS gR).get m=some o→(m=0∧o= .ints .u32 gS) ∨ (m=1∧o= .ints .u32 gR):=by
  intro m o hm
  rcases hLi_get [(0,.ints .u32 gS),(1,.ints .u32 gR)] .nil m o (fun q hq=>by
   simp only [List.mem_cons,List.not_mem_nil,or_false] at hq
   rcases hq with rfl | rfl <;> exact Nat.le_of_ble_eq_true rfl) hm with h1 | h1
  · simp [Tr.get] at h1
  · simp only [List.mem_cons,Prod.mk.injEq,List.not_mem_nil,or_false] at h1
    exact h1
 have hro:∀ m,¬ wlive (hSR gS gR) m:=by
  rintro m ⟨o,h1,h2⟩
  rcases hget m o h1 with ⟨_,rfl⟩ | ⟨_,rfl⟩ <;> cases h2
 refine ⟨⟨fun m o hm=>?_,fun m _ _ _ _ _ hl=>absurd hl (hro m),fun m b s hb=>?_,fun p hp=>gfind_of hp gtab_nd,fun b c q=>⟨phiW_ok w b c q,fun m s hl=>absurd hl (hro m)⟩⟩,fun m hm=>?_,hro⟩
 · rcases hget m o hm with ⟨rfl,rfl⟩ | ⟨rfl,rfl⟩
   · refine ⟨0,0,rfl,c0,el0,fz0,k0,?_,fun i x hx=>by rw [Nat.zero_add]; exact m0 i x hx⟩
     show c0.size=sizeW w 0
     unfold sizeW; rw [k0]
   · refine ⟨1,0,rfl,c1,el1,fz1,k1,?_,fun i x hx=>by rw [Nat.zero_add]; exact m1 i x hx⟩
     show c1.size=sizeW w 1
     unfold sizeW; rw [k1]
 · obtain ⟨p,h1,_,h2⟩:=gfind_mem hb
   cases h2; exact hw p h1
 · cases q:(EW w).ι m with
   | none=>rfl
   | some _=>obtain ⟨p',h1,h2,_⟩:=gfind_mem q; have:=gtab_lt h1; simp only [gN,gtab,List.length_cons,List.length_nil] at this; omega
theorem law_calls {f:FuncId} {fn:Func} {code:Code} (hf:Tryz.prog.funcs[f]? =some fn) (hb:fn.body=some code) {ds:List D} {vs:List Value} {w:World}
  (l:(Nat.ble (ds.map D.toV).length fn.ntmps && Nat.blt fn.ntmps top)=true) (hT:TG Tryz.prog 3 fn.ntmps code (startSt (ds.map D.toV) (hSR gS gR) 3) (RetG Tryz.prog 3 fn fun u _ _=>u= .bool true))
  (hw:WG w) (hl:laidMetH Tryz.prog laidL w) (ra:vrels (EW w) (ds.map D.toV) vs):Calls Tryz.prog f vs.toArray w fun e w'=>e= .returned (.bool true)∧Below w.heap.size w w':=by
 obtain ⟨g,hd,hro⟩:=EW_ok hw hl
 refine (calls_pure mo po hf hb l hT ra g hd hro).mono fun e w' ⟨⟨E2,ho⟩,hbl⟩=>⟨?_,hbl⟩
 cases e with
 | returned v'=>
   have ho:vrel E2 (.bool true) v':=ho
   simp only [vrel] at ho
   rw [ho]
 | _=>exact ho.elim
set_option linter.constructorNameAsVariable false
section
variable {H:Type} {enc:TypeId × Value→H} {w:World} {r:Reach} {base:Nat} {t:TypeId} {v:Value} {d:DataW H} {ps:List MemPlace} {spare:Nat→Bool} {held:Bool}
theorem arg_one {T:Ty} (n:Nat) (hT:tyOf Tryz.prog n t=some T) (hs:∀ cs,v ≠ .agg cs) (h:DataW.Trod enc Tryz.prog w 0 spare held t v d ps):∃ ds,T.ok ds∧drels (phiW w) ds [v]:=by
 obtain ⟨fuel,h⟩:=h
 have e:v.cells.toList=[v]:=by cases v <;> first | rfl | exact absurd rfl (hs _)
 rw [e] at h
 exact deep_in n hT h
theorem no_agg (h:Value.okWide Tryz.prog w r base t v) (ht:∀ fs,Tryz.prog.underlying t ≠ some (.struct fs)) (ht2:∀ k e,Tryz.prog.underlying t ≠ some (.array k e)):∀ cs,v ≠ .agg cs:=by
 rintro cs rfl
 unfold Value.okWide at h
 split at h
 · rename_i q; exact ht _ q
 · rename_i q; exact ht2 _ _ q
 · unfold Cell.okWide Cell.ok at h
   split at h <;> first | (split at h <;> simp_all) | simp_all
end
end Go.Proofs.YtmjggdmekboefaaGreatDoor.Sha
