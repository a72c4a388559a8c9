/- The Chunk laws: ChunkReach: the walk. No conditions. -/
import Derived.Test.YtfihojpgobmmdaaGreatDoorJointNineteen
set_option linter.unusedVariables false
set_option linter.unusedSimpArgs false
set_option linter.unusedSectionVars false
namespace Go.Proofs.YtfihojpgobmmdaaGreatDoor
open Go Go.Eng
theorem ltF16:16 < Tryz.prog.funcs.size:=Nat.le_of_ble_eq_true (by kernel_rfl)
theorem ltF17:17 < Tryz.prog.funcs.size:=Nat.le_of_ble_eq_true (by kernel_rfl)
theorem ltF18:18 < Tryz.prog.funcs.size:=Nat.le_of_ble_eq_true (by kernel_rfl)
def lgR (i:Nat):List UInt8:=bytesA (rsR i)
theorem lgR_succ (i:Nat):lgR (i+1)=lgR i ++ recB (bR i) (rR i):=by
 unfold lgR; rw [rsR_succ,bytesA_snoc]; rfl
theorem lgR_len:∀ i,(lgR i).length ≤ 60 * i
 | 0=>Nat.le_refl _
 | i+1=>by
   have:=lgR_len i
   have h:=recB_lenr (bR i) (rR_32 i)
   have:=rR_le i
   have:(bR i).length=1:=rfl
   rw [lgR_succ,List.length_append]; omega
theorem lgR_pos (i:Nat):0 < (lgR (i+1)).length:=by
 have:=(recB_len (bR i) (rR i)).1
 rw [lgR_succ,List.length_append]; omega
def dsR (i:Nat):List (List UInt8):=(List.range i).map dR
theorem dsR_succ (i:Nat):dsR (i+1)=dsR i ++ [dR i]:=by unfold dsR; rw [List.range_succ,List.map_append]; rfl
theorem dsR_len (i:Nat):(dsR i).length=i:=by unfold dsR; rw [List.length_map,List.length_range]
theorem dsR_get {n i:Nat} (h:i < n):0+i * 1 < (strs (dsR n)).length∧((strs (dsR n)).getD (0+i * 1) D.dflt).toV=V.str (dR i):=by
 have h':i < (dsR n).length:=by rw [dsR_len]; exact h
 have:=strs_getD h'
 have e:(dsR n)[i]=dR i:=by simp only [dsR,List.getElem_map,List.getElem_range]
 rw [e] at this; exact this
section
variable (gn:Bool) (n a:Nat)
abbrev sRk (i:Nat) (b:List UInt8):St:=sU gn n a (lgR i).length (lgR i).length (lgR i) i (esR i) [] (dsR i) (one1 b) [(13,iW i)]
def SR1:Nat→St
 | 0=>sUz gn n a [(13,iW 0)]
 | i+1=>sRk gn n a (i+1) (dR i)
set_option maxRecDepth 20000 in
theorem frzU (len cap:Nat) (lg:List UInt8) (nx:Int) (es:List (D × D)) (ds:List (List UInt8)) (d:List UInt8) (i:Nat):
  Goes Tryz.prog 3 Tryz.f3.ntmps (stG (frU gn n a [(11,.slc (some (7,0)) ds.length ds.length 1),(12,.slc (some (8,0)) 1 1 1),(13,iW i)]) (hL (mU len cap lg nx es [] ++ [(7,.deep (strs ds)),(8,.cells [.str d])])) 9) (sU gn n a len cap lg nx es [] ds (one1 d) [(13,iW i)]):=
 (Goes.frz [8] (A:=[[D.str d].length=1 * 1]) (S:=stG (frU gn n a [(11,.slc (some (7,0)) ds.length ds.length 1),(12,one1 d),(13,iW i)]) ((hL (mU len cap lg nx es [] ++ [(7,.deep (strs ds)),(8,.cells [.str d])])).set 8 none) 9) (by kernel_rfl) (fm1 rfl)).trans (.norm (live:=[2,7,8,9,10,11,12,13]) (by kernel_rfl))
theorem bR_u8 {i:Nat} (h:i < 20):UInt8.ofNat (IntKind.u8.wrap (Int.ofNat i)).toNat=UInt8.ofNat i:=by
 have:IntKind.u8.wrap (Int.ofNat i)=i:=by
  show (Int.ofNat i) % 2 ^ 8=_
  rw [hOn]; omega
 rw [this]; rfl
set_option maxRecDepth 20000 in
theorem loopU1 (hn0:0 < n) (hn:n ≤ 20) {Q:Exit→St→Prop} (h:TG Tryz.prog 3 Tryz.f3.ntmps tl8 (SR1 gn n a n) Q):TG Tryz.prog 3 Tryz.f3.ntmps tl7 (sUz gn n a []) Q:=by
 refine TG_seq' (by kernel_rfl) ?_
 refine TG_seq' (by kernel_rfl) ?_
 obtain ⟨L,hr⟩:=ua_2 gn n a
 refine TG_is XL mo anyR (by kernel_rfl) hr fun g hg _=>?_
 rw [List.mem_singleton] at hg; subst hg
 refine ⟨all_nil,fun s' hs'=>?_⟩
 refine TG_forN 0 n (SR1 gn n a) (by kernel_rfl) (by kernel_rfl) (.norm hs') (fun i hi=>?_) ?_
 · refine TG_seq' (by kernel_rfl) ?_
   cases i with
   | zero=>
     obtain ⟨L1,hr1⟩:=ua_3n gn n a
     refine TG_is XL mo anyR (by kernel_rfl) hr1 fun g hg hc=>?_
     rcases mem2 hg with rfl | rfl
     · refine ⟨all_nil,fun s1 hs1=>TG_norm hs1 ?_⟩
       refine TG_seq' (by kernel_rfl) ?_
       refine TG_block (i:=1) (by kernel_rfl) ?_
       obtain ⟨L2,hr2⟩:=ua_4n gn n a (nameOf [0] []) (recB [0] []).length (recB [0] []) (IntKind.i64.wrap (0+1)) (updD (.str (nameOf [0] [])) (entD [0] [] 0) [])
       refine TG_isN1 2 (XL.pin lt15 (u15n [0] (by decide))) mo (by kernel_rfl) hr2 (fm rfl (fm1 ⟨rfl,rfl,rfl⟩)) ?_
       obtain ⟨L3,hr3⟩:=ua_5n gn n a (nameOf [0] []) (recB [0] []).length (recB [0] []).length (recB [0] []) (IntKind.i64.wrap (0+1)) (updD (.str (nameOf [0] [])) (entD [0] [] 0) [])
       refine TG_is XL mo anyR (by kernel_rfl) hr3 fun g hg _=>?_
       rw [List.mem_singleton] at hg; subst hg
       refine ⟨all_nil,fun s2 hs2=>?_⟩
       refine (((Goes.norm hs2).trans (.deep [7] (S:=stG (frU gn n a [(11,.slc (some (7,0)) (dsR 1).length (dsR 1).length 1),(12,.slc (some (8,0)) 1 1 1),(13,iW 0)]) (hL (mU (lgR 1).length (lgR 1).length (lgR 1) 1 (esR 1) [] ++ [(7,.deep (strs (dsR 1))),(8,.cells [.str (dR 0)])])) 9) (by kernel_rfl))).trans (frzU gn n a _ _ _ _ _ _ _ 0)) _ _ ?_
       obtain ⟨L4,hr4⟩:=ua_6 gn n a (lgR 1).length (lgR 1).length (lgR 1) 1 (esR 1) (dsR 1) (dR 0) 0
       refine TG_is XL mo anyR (by kernel_rfl) hr4 fun g hg _=>?_
       rw [List.mem_singleton] at hg; subst hg
       exact ⟨fm1 (vadd (by rw [hOn]; omega) (by omega)),fun s3 hs3=>Goes.norm (S:=sRk gn n a 1 (dR 0)) hs3⟩
     · exact absurd (of_decide_eq_false (hc _ (List.mem_singleton.2 rfl))) (by rw [hOn]; omega)
   | succ i=>
     show TG _ _ _ _ (sRk gn n a (i+1) (dR i)) _
     have hlen:=lgR_len (i+1)
     have hpos:=lgR_pos i
     have hrl:=recB_lenr (bR (i+1)) (rR_32 (i+1))
     have hrr:=rR_le (i+1)
     have hb1:(bR (i+1)).length=1:=rfl
     have hnew:lookD (.str (nameOf (bR (i+1)) [dR i])) (esR (i+1))=none:=esR_new (n:=i+1) (by omega)
     have hput:=u15w (lgR (i+1)).length (lgR (i+1)).length (lgR (i+1)) (i+1:Nat) (esR (i+1)) (dsR (i+1)) (IntKind.u8.wrap (Int.ofNat (i+1))) (bR (i+1)) (dR i) (by omega) (dR_len i) ⟨_,_,_,esR_has (i+1) i (by omega) (by omega)⟩ hnew hpos rfl (by show _+(recB (bR (i+1)) (rR (i+1))).length ≤ _; omega)
     have e1:(lgR (i+1)).length+(recB (bR (i+1)) [dR i]).length=(lgR (i+1+1)).length:=by rw [lgR_succ (i+1),List.length_append]; rfl
     have e2:lgR (i+1) ++ recB (bR (i+1)) [dR i]=lgR (i+1+1):=(lgR_succ (i+1)).symm
     have e3:IntKind.i64.wrap (((i+1:Nat):Int)+1)=((i+1+1:Nat):Int):=by rw [wrap_id (by omega) (by omega)]; omega
     have e4:updD (.str (nameOf (bR (i+1)) [dR i])) (entD (bR (i+1)) [dR i] ((i+1:Nat):Int)) (esR (i+1))=esR (i+1+1):=rfl
     have e5:nameOf (bR (i+1)) [dR i]=dR (i+1):=rfl
     rw [e1,e2,e3,e4,e5] at hput
     obtain ⟨L1,hr1⟩:=ua_3s gn n a (lgR (i+1)).length (lgR (i+1)).length (lgR (i+1)) (i+1:Nat) (esR (i+1)) (dsR (i+1)) (dR i) (i+1)
     refine TG_is XL mo anyR (by kernel_rfl) hr1 fun g hg hc=>?_
     rcases mem2 hg with rfl | rfl
     · refine ⟨all_nil,fun s1 hs1=>TG_norm hs1 ?_⟩
       refine TG_seq' (by kernel_rfl) ?_
       refine TG_block (i:=1) (by kernel_rfl) ?_
       obtain ⟨L2,hr2⟩:=ua_4s gn n a (lgR (i+1)).length (lgR (i+1)).length (lgR (i+1)) (i+1:Nat) (esR (i+1)) (dsR (i+1)) (dR i) (bR (i+1)) (dR (i+1)) (i+1) (lgR (i+1+1)).length (lgR (i+1+1)) (i+1+1:Nat) (esR (i+1+1))
       refine TG_isN1 2 (XL.pin lt15 hput) mo (by kernel_rfl) hr2 (fm (by rw [bR_u8 (by omega)]; rfl) (fm1 ⟨rfl,rfl,rfl⟩)) ?_
       obtain ⟨L3,hr3⟩:=ua_5s gn n a (dR (i+1)) (lgR (i+1+1)).length (lgR (i+1+1)).length (lgR (i+1+1)) (i+1+1:Nat) (esR (i+1+1)) (dsR (i+1)) (i+1)
       refine TG_is XL mo anyR (by kernel_rfl) hr3 fun g hg _=>?_
       rw [List.mem_singleton] at hg; subst hg
       have hdl:=dsR_len (i+1)
       refine ⟨fm (by rw [strs_len]; omega) (fm (by decide) (fm1 (roomy16 (by omega)))),fun s2 hs2=>?_⟩
       have e6:List.take ((dsR (i+1)).length * 1) (List.drop 0 (strs (dsR (i+1)))) ++ [D.str (dR (i+1))]=strs (dsR (i+1+1)):=by
        rw [List.drop_zero,Nat.mul_one,List.take_of_length_le (by rw [strs_len]; omega),dsR_succ (i+1)]
        unfold strs; rw [List.map_append]; rfl
       have e7:(dsR (i+1)).length+1=(dsR (i+1+1)).length:=by rw [dsR_len,dsR_len]
       rw [e6,e7] at hs2
       refine ((Goes.norm hs2).trans (frzU gn n a _ _ _ _ _ _ _ (i+1))) _ _ ?_
       obtain ⟨L4,hr4⟩:=ua_6 gn n a (lgR (i+1+1)).length (lgR (i+1+1)).length (lgR (i+1+1)) (i+1+1:Nat) (esR (i+1+1)) (dsR (i+1+1)) (dR (i+1)) (i+1)
       refine TG_is XL mo anyR (by kernel_rfl) hr4 fun g hg _=>?_
       rw [List.mem_singleton] at hg; subst hg
       exact ⟨fm1 (vadd (by rw [hOn]; omega) (by omega)),fun s3 hs3=>Goes.norm (S:=sRk gn n a (i+1+1) (dR (i+1))) hs3⟩
     · exact absurd (of_decide_eq_false (hc _ (List.mem_singleton.2 rfl))) (by rw [hOn,hOn]; omega)
 · refine TG_seq' (by kernel_rfl) ?_
   obtain ⟨m,rfl⟩:∃ m,n=m+1:=⟨n - 1,by omega⟩
   show TG _ _ _ _ (sRk gn (m+1) a (m+1) (dR m)) _
   obtain ⟨L1,hr1⟩:=ua_3s gn (m+1) a (lgR (m+1)).length (lgR (m+1)).length (lgR (m+1)) (m+1:Nat) (esR (m+1)) (dsR (m+1)) (dR m) (m+1)
   refine TG_is XL mo anyR (by kernel_rfl) hr1 fun g hg hc=>?_
   rcases mem2 hg with rfl | rfl
   · exact absurd (of_decide_eq_true (hc _ (List.mem_singleton.2 rfl))) (by rw [hOn]; omega)
   · refine ⟨all_nil,fun s1 hs1=>⟨by simp,?_⟩⟩
     exact TG_norm hs1 h
end
section
variable (n a:Nat)
def lgS (n a:Nat):List UInt8:=lgR n ++ namB [114] (dR a)
theorem namR_len (a:Nat):(namB [114] (dR a)).length ≤ 200:=by
 have h:(frameB (put1 2 ++ txtB [114] ++ txtB (dR a))).length ≤ 200:=by
  have h1:=frameB_len (put1 2 ++ txtB [114] ++ txtB (dR a))
  have h2:=txtB_len [114]
  have h3:=txtB_len (dR a)
  have h4:=dR_len a
  have h5:(put1 2).length=1:=rfl
  have h6:([114]:List UInt8).length=1:=rfl
  simp only [List.length_append] at h1 ⊢
  omega
 exact h
theorem rtR_S (a:Nat):RtS (rtR a):=fun e he=>by rw [List.mem_singleton.1 he]; exact ⟨_,_,rfl⟩
theorem rtR_ends {n a:Nat} (hn:n ≤ 20) (ha:a < n):∀ x ∈ valsOf (rtR a),Ends (esR n) (a+1) x:=fun x hx=>by
 rw [rtR_vals] at hx; rw [List.mem_singleton.1 hx]; exact esR_ends hn a ha
abbrev sVk (gn:Bool) (r:List (Nat × V)):St:=sV gn n a (lgS n a).length (lgS n a).length (lgS n a) n (esR n) (rtR a) (dsR n) r
set_option maxRecDepth 20000 in
theorem loopU2 (gn:Bool) (hn0:0 < n) (hn:n ≤ 20) (ha:a < n) {Q:Exit→St→Prop} (h:∀ i,TG Tryz.prog 3 Tryz.f3.ntmps (tailN 10 cdUa) (sVk n a gn [(17,iW i)]) Q):TG Tryz.prog 3 Tryz.f3.ntmps tl8 (SR1 gn n a n) Q:=by
 obtain ⟨m,hm⟩:∃ m,n=m+1:=⟨n - 1,by omega⟩
 have hS:SR1 gn n a n=sRk gn n a n (dR m):=by subst hm; rfl
 have hpos:0 < (lgR n).length:=by subst hm; exact lgR_pos m
 have hlen:=lgR_len n
 have hnl:=namR_len a
 rw [hS]
 have hdl:=dsR_len n
 have hg:=dsR_get ha
 refine TG_seq' (by kernel_rfl) ?_
 have hroot:=u16 (lgR n).length (lgR n).length (lgR n) n (esR n) (dsR n) (dR a) (dR_len a) ⟨_,_,_,esR_has n a hn ha⟩ hpos rfl (by omega)
 rw [← List.length_append] at hroot
 obtain ⟨L,hr⟩:=ub_1 gn n a (lgR n).length (lgR n).length (lgR n) n (esR n) (dsR n) (dR m) (dR a) n (lgR n ++ namB [114] (dR a)).length (lgR n ++ namB [114] (dR a)) (updD (.str [114]) (.str (dR a)) [])
 refine TG_is (XL.pin ltF16 hroot) mo anyR (by kernel_rfl) hr fun g hg' _=>?_
 rw [List.mem_singleton] at hg'; subst hg'
 refine ⟨fm (⟨Int.natCast_nonneg _,by rw [hOn,hOn]; omega⟩) (fm (hg.1) (fm (hg.2) (fm1 (⟨rfl,rfl,rfl⟩)))),fun s' hs'=>TG_norm hs' ?_⟩
 show TG _ _ _ tl9 (sVk n a gn []) _
 refine TG_seq' (by kernel_rfl) ?_
 refine TG_seq' (by kernel_rfl) ?_
 obtain ⟨L2,hr2⟩:=ub_2 gn n a (lgS n a).length (lgS n a).length (lgS n a) n (esR n) (rtR a) (dsR n)
 refine TG_is XL mo anyR (by kernel_rfl) hr2 fun g hg' _=>?_
 rw [List.mem_singleton] at hg'; subst hg'
 refine ⟨all_nil,fun s1 hs1=>?_⟩
 refine TG_forN 2 n (fun i=>sVk n a gn [(17,iW i)]) (by kernel_rfl) (by kernel_rfl) (.norm hs1) (fun i hi=>?_) ?_
 · refine TG_seq' (by kernel_rfl) ?_
   obtain ⟨L3,hr3⟩:=ub_3 gn n a (lgS n a).length (lgS n a).length (lgS n a) n (esR n) (rtR a) (dsR n) i
   refine TG_is XL mo anyR (by kernel_rfl) hr3 fun g hg' hc=>?_
   rcases mem2 hg' with rfl | rfl
   · refine ⟨all_nil,fun s2 hs2=>TG_norm hs2 ?_⟩
     refine TG_seq' (by kernel_rfl) ?_
     refine TG_block (i:=3) (by kernel_rfl) ?_
     have h17:=u17 (lgS n a).length (lgS n a).length (lgS n a) n (esR n) (rtR a) (dsR n) 0 (a+1) (dR i) (rtR_S a) (rtR_ends hn ha)
     rw [canR_dec hn ha hi] at h17
     have h18:=u18 (lgS n a).length (lgS n a).length (lgS n a) n (esR n) (rtR a) (dsR n) 0 (dR i) (esR_ent n)
     rw [show (lookD (.str (dR i)) (esR n)).isSome=true by rw [esR_has n i hn hi]; rfl] at h18
     have hgi:=dsR_get hi
     obtain ⟨L4,hr4⟩:=ub_4 gn n a (lgS n a).length (lgS n a).length (lgS n a) n (esR n) (rtR a) (dsR n) i (dR i) (decide (i ≤ a))
     refine TG_is ((XL.pin ltF17 h17).pin ltF18 h18) mo anyR (by kernel_rfl) hr4 fun g hg' _=>?_
     rw [List.mem_singleton] at hg'; subst hg'
     refine ⟨fm (⟨Int.natCast_nonneg _,by rw [hOn,hOn]; omega⟩) (fm (hgi.1) (fm (hgi.2) (fm (⟨rfl,rfl,rfl⟩) (fm (congrArg V.bool (decide_eq_decide.2 (by rw [hOn,hOn]; omega))) (fm (by cases decide (i ≤ a) <;> rfl) (fm (⟨Int.natCast_nonneg _,by rw [hOn,hOn]; omega⟩) (fm (hgi.1) (fm (hgi.2) (fm1 (⟨rfl,rfl,rfl⟩)))))))))),fun s3 hs3=>TG_norm hs3 ?_⟩
     show TG _ _ _ _ (sVk n a gn [(17,iW i)]) _
     obtain ⟨L5,hr5⟩:=ub_5 gn n a (lgS n a).length (lgS n a).length (lgS n a) n (esR n) (rtR a) (dsR n) i
     refine TG_is XL mo anyR (by kernel_rfl) hr5 fun g hg' _=>?_
     rw [List.mem_singleton] at hg'; subst hg'
     exact ⟨fm1 (vadd (by rw [hOn]; omega) (by omega)),fun s4 hs4=>.norm hs4⟩
   · exact absurd (of_decide_eq_false (hc _ (List.mem_singleton.2 rfl))) (by rw [hOn,hOn]; omega)
 · refine TG_seq' (by kernel_rfl) ?_
   obtain ⟨L3,hr3⟩:=ub_3 gn n a (lgS n a).length (lgS n a).length (lgS n a) n (esR n) (rtR a) (dsR n) n
   refine TG_is XL mo anyR (by kernel_rfl) hr3 fun g hg' hc=>?_
   rcases mem2 hg' with rfl | rfl
   · exact absurd (of_decide_eq_true (hc _ (List.mem_singleton.2 rfl))) (by rw [hOn]; omega)
   · refine ⟨all_nil,fun s2 hs2=>⟨by simp,?_⟩⟩
     exact TG_norm hs2 (h n)
end
end Go.Proofs.YtfihojpgobmmdaaGreatDoor
namespace Go.Proofs.YtfihojpgobmmdaaGreatDoor
open Go Go.Eng
theorem canR_dec2 {n a i:Nat} (hn:n ≤ 20) (ha:a < n) (hi:i < 20):decide (dR i ∈ canK (esR n) (rtR a) (a+1))=decide (i < a+1):=by
 refine decide_eq_decide.2 ?_
 rw [canR hn ha]
 constructor
 · rintro ⟨j,hj,e⟩
   have:=dR_inj (by omega) (by omega) e; omega
 · exact fun h=>⟨i,by omega,rfl⟩
theorem hasR_dec {n i:Nat} (hn:n ≤ 20) (hi:i < 20):(lookD (.str (dR i)) (esR n)).isSome=decide (i < n):=by
 by_cases h:i < n
 · rw [esR_has n i hn h,decide_eq_true h]; rfl
 · rw [esR_none n (dR i) (fun j hj e=>by have:=dR_inj hi (by omega) e; omega),decide_eq_false h]; rfl
section
variable (n a:Nat) (hn:n ≤ 20) (ha:a < n)
def bsR (n a:Nat):List UInt8:=bytesA (recsC (esR n) (rtR a) ((List.range (a+1)).map dR))
include hn ha in
theorem bsR_len:(bsR n a).length ≤ 2000:=by
 unfold bsR
 rw [recs_R hn ha,bytesA_snoc,List.length_append]
 have h1:=lgR_len (a+1)
 have h2:=namR_len a
 unfold lgR at h1
 have:(Rcd.root [114] (dR a)).bytes.length=(namB [114] (dR a)).length:=rfl
 omega
include hn ha in
theorem comp_R (len cap:Nat) (lg:List UInt8):CallIs Tryz.prog 19 [P3] (hL (mW len cap lg n (esR n) (rtR a) (dsR n) 0)) 8 okE (hL (lWA lg (esR n) (rtR a) (dsR n) (bsR n a) (a+1:Nat) (esR (a+1)) (rtR a))) 11:=by
 have hperm:=canR_perm hn ha
 have hb:=bsR_len n a hn ha
 have hnum:=esR_num n hn
 have hc:=call19g len cap lg 0 n 0 (esR n) (rtR a) (a+1) ((List.range (a+1)).map dR) (rtR_S a) (rtR_ends hn ha) (by rw [← hperm.length_eq,List.length_map,List.length_range]; omega) (esR_ent n) (fun x=>⟨(hnum.2 x).1,by have:=(hnum.2 x).2; omega⟩) hperm (zsR_pair hn ha)
  (fun x hx=>by
   obtain ⟨j,hj,rfl⟩:=List.mem_map.1 hx
   rw [List.mem_range] at hj
   rw [rcR_is hn (by omega:j < n)]
   have h1:=rR_le j
   exact ⟨⟨_,_,_,esR_has n j hn (by omega)⟩,Nat.le_of_ble_eq_true rfl,by omega,rR_32 j⟩)
  (fun x hx=>by
   rw [show keysOf (rtR a)=[[114]] from rfl,sortS_one,List.mem_singleton] at hx
   subst hx
   have h1:=dR_len a
   refine ⟨⟨dR a,rfl⟩,?_,?_⟩
   · show (1:Nat) ≤ 1000; decide
   · show (dR a).length ≤ 1000; omega) (by show 1 < 1000000; decide) (by unfold bsR at hb; omega)
  (by rw [List.range_succ]; simp) (by simp [rtR])
 rw [ap_R hn ha] at hc
 exact u19 len cap lg n (esR n) (rtR a) (dsR n) (q:=⟨(a+1:Nat),esR (a+1),rtR a⟩) hc
set_option maxRecDepth 20000 in
include hn ha in
theorem loopA {Q:Exit→St→Prop} (h:∀ i,TG Tryz.prog 3 Tryz.f3.ntmps (seqR tl13) (sWA n (bsR n a).length (bsR n a).length (bsR n a) (a+1:Nat) (esR (a+1)) (rtR a) (dsR n) (Int.ofNat (bsR n a).length) [(18,iW (a+1)),(19,okE),(20,iW i)]) Q):
  TG Tryz.prog 3 Tryz.f3.ntmps tl13 (sWA n (bsR n a).length (bsR n a).length (bsR n a) (a+1:Nat) (esR (a+1)) (rtR a) (dsR n) (Int.ofNat (bsR n a).length) [(18,iW (a+1)),(19,okE)]) Q:=by
 have hdl:=dsR_len n
 generalize bsR n a=bs at h ⊢
 refine TG_seq' (by kernel_rfl) ?_
 refine TG_seq' (by kernel_rfl) ?_
 obtain ⟨L2,hr2⟩:=uc_4A n (a+1) bs.length bs.length bs (a+1:Nat) (esR (a+1)) (rtR a) (dsR n) (Int.ofNat bs.length)
 refine TG_is XL mo anyR (by kernel_rfl) hr2 fun g hg' _=>?_
 rw [List.mem_singleton] at hg'; subst hg'
 refine ⟨all_nil,fun s1 hs1=>?_⟩
 refine TG_forN 4 n (fun i=>sWA n bs.length bs.length bs (a+1:Nat) (esR (a+1)) (rtR a) (dsR n) (Int.ofNat bs.length) [(18,iW (a+1)),(19,okE),(20,iW i)]) (by kernel_rfl) (by kernel_rfl) (.norm hs1) (fun i hi=>?_) ?_
 · refine TG_seq' (by kernel_rfl) ?_
   obtain ⟨L3,hr3⟩:=uc_5A n (a+1) bs.length bs.length bs (a+1:Nat) (esR (a+1)) (rtR a) (dsR n) (Int.ofNat bs.length) i
   refine TG_is XL mo anyR (by kernel_rfl) hr3 fun g hg' hc=>?_
   rcases mem2 hg' with rfl | rfl
   · refine ⟨all_nil,fun s2 hs2=>TG_norm hs2 ?_⟩
     refine TG_seq' (by kernel_rfl) ?_
     refine TG_block (i:=5) (by kernel_rfl) ?_
     have h17:=u17 bs.length bs.length bs (a+1:Nat) (esR (a+1)) (rtR a) (dsR n) (Int.ofNat bs.length) (a+1) (dR i) (rtR_S a) (rtR_ends (by omega) (by omega))
     rw [canR_dec2 (by omega) (by omega) (by omega)] at h17
     have h18:=u18 bs.length bs.length bs (a+1:Nat) (esR (a+1)) (rtR a) (dsR n) (Int.ofNat bs.length) (dR i) (esR_ent (a+1))
     rw [hasR_dec (by omega) (by omega)] at h18
     have hgi:=dsR_get hi
     obtain ⟨L4,hr4⟩:=uc_6A n (a+1) bs.length bs.length bs (a+1:Nat) (esR (a+1)) (rtR a) (dsR n) (Int.ofNat bs.length) i (dR i) (decide (i < a+1))
     refine TG_is ((XL.pin ltF17 h17).pin ltF18 h18) mo anyR (by kernel_rfl) hr4 fun g hg' _=>?_
     rw [List.mem_singleton] at hg'; subst hg'
     have hlt:V.bool (decide (Int.ofNat i < Int.ofNat (a+1)))=V.bool (decide (i < a+1)):=congrArg V.bool (decide_eq_decide.2 (by rw [hOn,hOn]; omega))
     have hne:(V.bool !(decide (i < a+1)) == (decide (i < a+1)))=V.bool false:=by cases decide (i < a+1) <;> rfl
     refine ⟨fm (⟨Int.natCast_nonneg _,by rw [hOn,hOn]; omega⟩) (fm (hgi.1) (fm (hgi.2) (fm (⟨rfl,rfl,rfl⟩) (fm (hlt) (fm (hne) (fm (⟨Int.natCast_nonneg _,by rw [hOn,hOn]; omega⟩) (fm (hgi.1) (fm (hgi.2) (fm (⟨rfl,rfl,rfl⟩) (fm (hlt) (fm1 (hne)))))))))))),fun s3 hs3=>TG_norm hs3 ?_⟩
     obtain ⟨L5,hr5⟩:=uc_7A n (a+1) bs.length bs.length bs (a+1:Nat) (esR (a+1)) (rtR a) (dsR n) (Int.ofNat bs.length) i
     refine TG_is XL mo anyR (by kernel_rfl) hr5 fun g hg' _=>?_
     rw [List.mem_singleton] at hg'; subst hg'
     exact ⟨fm1 (vadd (by rw [hOn]; omega) (by omega)),fun s4 hs4=>.norm hs4⟩
   · exact absurd (of_decide_eq_false (hc _ (List.mem_singleton.2 rfl))) (by rw [hOn,hOn]; omega)
 · refine TG_seq' (by kernel_rfl) ?_
   obtain ⟨L3,hr3⟩:=uc_5A n (a+1) bs.length bs.length bs (a+1:Nat) (esR (a+1)) (rtR a) (dsR n) (Int.ofNat bs.length) n
   refine TG_is XL mo anyR (by kernel_rfl) hr3 fun g hg' hc=>?_
   rcases mem2 hg' with rfl | rfl
   · exact absurd (of_decide_eq_true (hc _ (List.mem_singleton.2 rfl))) (by rw [hOn]; omega)
   · refine ⟨all_nil,fun s2 hs2=>⟨by simp,?_⟩⟩
     exact TG_norm hs2 (h n)
set_option maxRecDepth 20000 in
include hn in
theorem loopB {Q:Exit→St→Prop} (h:∀ i,TG Tryz.prog 3 Tryz.f3.ntmps (seqR tl13) (sWB n (dsR n) [(18,iW 0),(19,okE),(20,iW i)]) Q):
  TG Tryz.prog 3 Tryz.f3.ntmps tl13 (sWB n (dsR n) [(18,iW 0),(19,okE)]) Q:=by
 have hdl:=dsR_len n
 refine TG_seq' (by kernel_rfl) ?_
 refine TG_seq' (by kernel_rfl) ?_
 obtain ⟨L2,hr2⟩:=uc_4B n 0 (dsR n)
 refine TG_is XL mo anyR (by kernel_rfl) hr2 fun g hg' _=>?_
 rw [List.mem_singleton] at hg'; subst hg'
 refine ⟨all_nil,fun s1 hs1=>?_⟩
 refine TG_forN 4 n (fun i=>sWB n (dsR n) [(18,iW 0),(19,okE),(20,iW i)]) (by kernel_rfl) (by kernel_rfl) (.norm hs1) (fun i hi=>?_) ?_
 · refine TG_seq' (by kernel_rfl) ?_
   obtain ⟨L3,hr3⟩:=uc_5B n 0 (dsR n) i
   refine TG_is XL mo anyR (by kernel_rfl) hr3 fun g hg' hc=>?_
   rcases mem2 hg' with rfl | rfl
   · refine ⟨all_nil,fun s2 hs2=>TG_norm hs2 ?_⟩
     refine TG_seq' (by kernel_rfl) ?_
     refine TG_block (i:=5) (by kernel_rfl) ?_
     have hgi:=dsR_get hi
     obtain ⟨L4,hr4⟩:=uc_6B n (dsR n) i (dR i)
     refine TG_is ((XL.pin ltF17 (u17n (dsR n) (dR i))).pin ltF18 (u18n (dsR n) (dR i))) mo anyR (by kernel_rfl) hr4 fun g hg' _=>?_
     rw [List.mem_singleton] at hg'; subst hg'
     have hlt:V.bool (decide (Int.ofNat i < (0:Int)))=V.bool false:=congrArg V.bool (decide_eq_false (by rw [hOn]; omega))
     refine ⟨fm (⟨Int.natCast_nonneg _,by rw [hOn,hOn]; omega⟩) (fm (hgi.1) (fm (hgi.2) (fm (⟨rfl,rfl,rfl⟩) (fm (hlt) (fm (rfl) (fm (⟨Int.natCast_nonneg _,by rw [hOn,hOn]; omega⟩) (fm (hgi.1) (fm (hgi.2) (fm (⟨rfl,rfl,rfl⟩) (fm (hlt) (fm1 (rfl)))))))))))),fun s3 hs3=>TG_norm hs3 ?_⟩
     obtain ⟨L5,hr5⟩:=uc_7B n 0 (dsR n) i
     refine TG_is XL mo anyR (by kernel_rfl) hr5 fun g hg' _=>?_
     rw [List.mem_singleton] at hg'; subst hg'
     exact ⟨fm1 (vadd (by rw [hOn]; omega) (by omega)),fun s4 hs4=>.norm hs4⟩
   · exact absurd (of_decide_eq_false (hc _ (List.mem_singleton.2 rfl))) (by rw [hOn,hOn]; omega)
 · refine TG_seq' (by kernel_rfl) ?_
   obtain ⟨L3,hr3⟩:=uc_5B n 0 (dsR n) n
   refine TG_is XL mo anyR (by kernel_rfl) hr3 fun g hg' hc=>?_
   rcases mem2 hg' with rfl | rfl
   · exact absurd (of_decide_eq_true (hc _ (List.mem_singleton.2 rfl))) (by rw [hOn]; omega)
   · refine ⟨all_nil,fun s2 hs2=>⟨by simp,?_⟩⟩
     exact TG_norm hs2 (h n)
set_option maxRecDepth 20000 in
include hn ha in
theorem endU (gn:Bool) (i:Nat):TG Tryz.prog 3 Tryz.f3.ntmps (tailN 10 cdUa) (sVk n a gn [(17,iW i)]) (RetG Tryz.prog 3 Tryz.f3 fun u _ _=>u= .bool true):=by
 have hpos:0 < (lgS n a).length:=by
  obtain ⟨m,rfl⟩:∃ m,n=m+1:=⟨n - 1,by omega⟩
  have:=lgR_pos m
  unfold lgS; rw [List.length_append]; omega
 have hlen:(lgS n a).length ≤ 2000:=by
  have:=lgR_len n
  have:=namR_len a
  unfold lgS; rw [List.length_append]; omega
 refine TG_seq' (by kernel_rfl) ?_
 obtain ⟨L1,hr1⟩:=uc_1 gn n a (lgS n a).length (lgS n a).length (lgS n a) n (esR n) (rtR a) (dsR n) i
 refine TG_is XL mo anyR (by kernel_rfl) hr1 fun g hg' _=>?_
 rw [List.mem_singleton] at hg'; subst hg'
 refine ⟨fm1 (vadd (by rw [hOn]; omega) (by omega)),fun s1 hs1=>TG_norm hs1 ?_⟩
 show TG _ _ _ (tailN 11 cdUa) _ _
 refine TG_seq' (by kernel_rfl) ?_
 cases gn with
 | false=>
   obtain ⟨L2,hr2⟩:=uc_2f n a (lgS n a).length (lgS n a).length (lgS n a) n (esR n) (rtR a) (dsR n)
   refine TG_is XL mo anyR (by kernel_rfl) hr2 fun g hg' _=>?_
   rw [List.mem_singleton] at hg'; subst hg'
   refine ⟨all_nil,fun s2 hs2=>TG_norm hs2 ?_⟩
   show TG _ _ _ (tailN 12 cdUa) _ _
   refine TG_seq' (by kernel_rfl) ?_
   obtain ⟨L3,hr3⟩:=uc_3A n (a+1) (lgS n a).length (lgS n a).length (lgS n a) n (esR n) (rtR a) (dsR n) (bsR n a) (a+1:Nat) (esR (a+1)) (rtR a)
   refine TG_is (XL.pin lt19 (comp_R n a hn ha _ _ _)) mo anyR (by kernel_rfl) hr3 fun g hg' _=>?_
   rw [List.mem_singleton] at hg'; subst hg'
   refine ⟨fm1 ⟨rfl,rfl,rfl⟩,fun s3 hs3=>TG_norm hs3 (loopA n a hn ha fun i=>?_)⟩
   obtain ⟨L4,hr4⟩:=uc_8A n (a+1) (bsR n a).length (bsR n a).length (bsR n a) (a+1:Nat) (esR (a+1)) (rtR a) (dsR n) (Int.ofNat (bsR n a).length) i
   refine TG_ret XL mo _ (by kernel_rfl) hr4 fun g hg' _=>?_
   rw [List.mem_singleton] at hg'; subst hg'
   exact ⟨fm1 (by rw [esR_len (a+1) (by omega)]; exact congrArg V.bool (beq_self_eq_true _)),_,_,_,rfl,rfl⟩
 | true=>
   have h100:(namB [114] []).length ≤ 100:=Nat.le_of_ble_eq_true (by kernel_rfl)
   have hd:=u16d (lgS n a).length (lgS n a).length (lgS n a) n (esR n) (dsR n) (dR a) (dR_len a) hpos rfl (by omega)
   generalize hl2:(lgS n a).length+(namB [114] []).length=len2 at hd
   generalize lgS n a ++ namB [114] []=lg2 at hd
   obtain ⟨L2,hr2⟩:=uc_2t n a (lgS n a).length (lgS n a).length (lgS n a) n (esR n) (rtR a) (dsR n) len2 lg2 []
   refine TG_is (XL.pin ltF16 hd) mo anyR (by kernel_rfl) hr2 fun g hg' _=>?_
   rw [List.mem_singleton] at hg'; subst hg'
   refine ⟨fm1 ⟨rfl,rfl,rfl⟩,fun s2 hs2=>TG_norm hs2 ?_⟩
   show TG _ _ _ (tailN 12 cdUa) _ _
   refine TG_seq' (by kernel_rfl) ?_
   have hnum:=esR_num n hn
   obtain ⟨L3,hr3⟩:=uc_3B n 0 len2 len2 lg2 n (esR n) (dsR n)
   refine TG_is (XL.pin lt19 (u19e len2 len2 lg2 n (esR n) (dsR n) (esR_ent n) (fun x=>⟨(hnum.2 x).1,by have:=(hnum.2 x).2; omega⟩))) mo anyR (by kernel_rfl) hr3 fun g hg' _=>?_
   rw [List.mem_singleton] at hg'; subst hg'
   refine ⟨fm1 ⟨rfl,rfl,rfl⟩,fun s3 hs3=>TG_norm hs3 (loopB n hn fun i=>?_)⟩
   obtain ⟨L4,hr4⟩:=uc_8B n (dsR n) i
   refine TG_ret XL mo _ (by kernel_rfl) hr4 fun g hg' _=>?_
   rw [List.mem_singleton] at hg'; subst hg'
   exact ⟨all_nil,_,_,_,rfl,rfl⟩
end
set_option maxRecDepth 20000 in
theorem tgReach (x:Int) (h0:0 ≤ x) (h1:x ≤ 255) (y:Int) (h2:0 ≤ y) (h3:y ≤ 255) (gn:Bool):TG Tryz.prog 3 Tryz.f3.ntmps cdUa (startSt [.int .u8 x,.int .u8 y,.bool gn] (hSR gS gR) 3) (RetG Tryz.prog 3 Tryz.f3 fun u _ _=>u= .bool true):=by
 obtain ⟨m,rfl⟩:=Int.eq_ofNat_of_zero_le h0
 obtain ⟨k,rfl⟩:=Int.eq_ofNat_of_zero_le h2
 have hm:=Nat.mod_lt m (show 0 < 20 by decide)
 have ha:=Nat.mod_lt k (show 0 < m % 20+1 by omega)
 obtain ⟨L1,hr1⟩:=ua_1 m k gn (m % 20) (m % 20+1) (k % (m % 20+1))
 have e1:((m:Int)).tmod (20:Int)=((m % 20:Nat):Int):=by rw [Int.tmod_eq_emod_of_nonneg (by omega)]; rfl
 have e2:IntKind.i64.wrap (k:Int)=(k:Int):=wrap_id (by omega) (by omega)
 have e3:((k:Int)).tmod ((m % 20+1:Nat):Int)=((k % (m % 20+1):Nat):Int):=by rw [Int.tmod_eq_emod_of_nonneg (by omega)]; rfl
 refine TG_isN1 7 XL mo (by kernel_rfl) hr1 (fm (rfl) (fm (rfl) (fm (vadd (by rw [e1]) (by omega)) (fm (vadd (by rw [hOn]; omega) (by omega)) (fm (by rw [hOn]; omega) (fm1 (by rw [e2,hOn,e3]; rfl))))))) ?_
 refine TG_map [(4,none),(5,none)] (s2:=sUz gn (m % 20+1) (k % (m % 20+1)) []) (by kernel_rfl) ?_
 exact loopU1 gn _ _ (by omega) (by omega) (loopU2 _ _ gn (by omega) (by omega) ha fun i=>endU _ _ (by omega) ha gn i)
end Go.Proofs.YtfihojpgobmmdaaGreatDoor
