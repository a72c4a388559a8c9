/- The Doc laws: what Head writes is read again: plain laws. No conditions. -/
import Derived.Test.YtmjggdmekboefaaGreatDoorJointTwelve
set_option linter.unusedVariables false
set_option linter.unusedSimpArgs false
set_option linter.unusedSectionVars false
namespace Go.Proofs.YtmjggdmekboefaaGreatDoor
open Go Go.Eng
set_option maxRecDepth 20000 in
theorem or128:∀ x:Nat,x < 256→x ||| 128=x % 128+128:=by decide
theorem u8w (n:Nat):IntKind.u8.wrap (n:Int)=((n % 256:Nat):Int):=by
 simp only [IntKind.wrap,IntKind.bits,IntKind.signed]; simp
theorem u64w (n:Nat):IntKind.u64.wrap (n:Int)=((n % 18446744073709551616:Nat):Int):=by
 simp only [IntKind.wrap,IntKind.bits,IntKind.signed]; simp
theorem hiB_nat (u:Nat):hiB (u:Int)=((u % 128+128:Nat):Int):=by
 unfold hiB
 rw [u8w]
 have h1:(BitVec.ofInt 8 ((u % 256:Nat):Int) ||| BitVec.ofInt 8 (128:Int)).toNat=u % 128+128:=by
  rw [BitVec.toNat_or]
  have e1:(BitVec.ofInt 8 ((u % 256:Nat):Int)).toNat=u % 256:=by
   rw [BitVec.ofInt_natCast,BitVec.toNat_ofNat]; omega
  have e2:(BitVec.ofInt 8 (128:Int)).toNat=128:=rfl
  rw [e1,e2,or128 _ (by omega)]; omega
 rw [h1,hOn,u8w]
 congr 1; omega
theorem loB_nat (u:Nat) (h:u < 128):loB (u:Int)=(u:Int):=by
 unfold loB; rw [u8w]; congr 1; omega
theorem fdiv_nat (u:Nat):(u:Int).fdiv 128=((u / 128:Nat):Int):=by
 rw [Int.fdiv_eq_ediv_of_nonneg _ (by decide)]; rfl
theorem u8_ofNat {n:Nat} (h:n < 256):(UInt8.ofNat n).toNat=n:=by
 rw [UInt8.toNat_ofNat']; omega
theorem uS_nat (acc:Nat) (b:UInt8) (i:Nat) (ha:acc < 2 ^ (7 * i)) (hi:i ≤ 9) (hs:acc+b.toNat % 128 * 2 ^ (7 * i) < 18446744073709551616):uS (acc:Int) b i=((acc+b.toNat % 128 * 2 ^ (7 * i):Nat):Int):=by
 have hb:b.toNat < 256:=b.toNat_lt
 unfold uS
 have e1:(BitVec.ofInt 8 (Int.ofNat b.toNat) &&& BitVec.ofInt 8 (127:Int)).toNat=b.toNat % 128:=by
  rw [BitVec.toNat_and]
  have e2:(BitVec.ofInt 8 (127:Int)).toNat=2 ^ 7 - 1:=rfl
  have e3:(BitVec.ofInt 8 (Int.ofNat b.toNat)).toNat=b.toNat:=by
   rw [hOn,BitVec.ofInt_natCast,BitVec.toNat_ofNat]; omega
  rw [e2,e3,Nat.and_two_pow_sub_one_eq_mod]
 rw [e1]
 simp only [hOn]
 rw [u8w,u64w (b.toNat % 128 % 256),Int.toNat_natCast,show min (7 * i) 64=7 * i by omega]
 have e4:(((b.toNat % 128 % 256 % 18446744073709551616:Nat):Int) * (2:Int) ^ (7 * i))=((b.toNat % 128 * 2 ^ (7 * i):Nat):Int):=by
  rw [show b.toNat % 128 % 256 % 18446744073709551616=b.toNat % 128 by omega]
  simp [Int.natCast_mul,Int.natCast_pow]
 rw [e4,u64w (b.toNat % 128 * 2 ^ (7 * i)),BitVec.toNat_or,BitVec.ofInt_natCast,BitVec.ofInt_natCast,BitVec.toNat_ofNat,BitVec.toNat_ofNat]
 have h64:(2:Nat) ^ 64=18446744073709551616:=by decide
 rw [h64,Nat.mod_mod,Nat.mod_eq_of_lt (a:=acc) (by omega),Nat.mod_eq_of_lt (a:=b.toNat % 128 * 2 ^ (7 * i)) (by omega)]
 have h5:acc ||| b.toNat % 128 * 2 ^ (7 * i)=acc+b.toNat % 128 * 2 ^ (7 * i):=by
  rw [Nat.or_comm,Nat.mul_comm,← Nat.two_pow_add_eq_or_of_lt ha,Nat.add_comm]
 rw [h5,u64w,Nat.mod_eq_of_lt hs]
theorem getD_of_drop {s:List UInt8} {q:Nat} {b:UInt8} {r:List UInt8} (h:s.drop q=b :: r):s.getD q 0=b:=by
 have:(s.drop q)[0]? =some b:=by rw [h]; rfl
 rw [List.getElem?_drop,Nat.add_zero] at this
 rw [List.getD_eq_getElem?_getD,this]; rfl
theorem drop_next {s:List UInt8} {q:Nat} {b:UInt8} {r:List UInt8} (h:s.drop q=b :: r):s.drop (q+1)=r:=by
 rw [← List.drop_drop,h]; rfl
theorem u8I {n:Nat} (h:n < 256):(UInt8.ofNat (n:Int).toNat).toNat=n:=by rw [Int.toNat_natCast,u8_ofNat h]
theorem rvL_varL:∀ (k m i acc u:Nat) (s:List UInt8) (a:Nat) (r:List UInt8),u < 128 ^ (k+1)→i+k ≤ 9→acc < 2 ^ (7 * i)→acc+u * 2 ^ (7 * i) < 18446744073709551616→(0 < i→0 < u)→s.drop (a+i)=strI (varL k (u:Int)) ++ r→(varL k (u:Int)).length ≤ m→
  rvL s a m i (acc:Int)=some (IntKind.i64.wrap ((acc+u * 2 ^ (7 * i):Nat):Int),i+(varL k (u:Int)).length)
 | k,0,_,_,u,_,_,_,_,_,_,_,_,_,hm=>by have:=(varL_len k (u:Int)).1; omega
 | k,m+1,i,acc,u,s,a,r,hu,hi,ha,hU,h0,hs,hm=>by
   have last:u < 128→s.drop (a+i)=UInt8.ofNat (u:Int).toNat :: r→rvL s a (m+1) i (acc:Int)=some (IntKind.i64.wrap ((acc+u * 2 ^ (7 * i):Nat):Int),i+1):=by
    intro hlt hd
    have h9:i=9→u ≤ 1:=fun e=>by
     subst e
     have h63:(2:Nat) ^ (7 * 9)=9223372036854775808:=by decide
     rw [h63] at hU
     omega
    have e128:u % 128=u:=by omega
    unfold rvL
    rw [getD_of_drop hd,u8I (by omega),if_neg (by omega),if_neg (by omega),uS_nat _ _ _ ha (by omega) (by rw [u8I (by omega),e128]; exact hU),u8I (by omega),e128]
   cases k with
   | zero=>
     simp only [varL] at hs ⊢
     rw [loB_nat u (by omega)] at hs
     exact last (by omega) hs
   | succ k=>
     unfold varL at hs hm ⊢
     by_cases h128:(128:Int) ≤ (u:Int)
     · rw [if_pos h128] at hs hm ⊢
       rw [hiB_nat,fdiv_nat] at hs
       rw [fdiv_nat] at hm ⊢
       have hs:s.drop (a+i)=UInt8.ofNat ((u % 128+128:Nat):Int).toNat :: (strI (varL k ((u / 128:Nat):Int)) ++ r):=hs
       have hb:=u8I (n:=u % 128+128) (by omega)
       have e1:(u % 128+128) % 128=u % 128:=by omega
       have hpow:(2:Nat) ^ (7 * (i+1))=128 * 2 ^ (7 * i):=by rw [show 7 * (i+1)=7+7 * i by omega,Nat.pow_add]
       have hlt:u % 128 * 2 ^ (7 * i) ≤ 127 * 2 ^ (7 * i):=Nat.mul_le_mul_right _ (by omega)
       have e2:acc+u % 128 * 2 ^ (7 * i)+u / 128 * (128 * 2 ^ (7 * i))=acc+u * 2 ^ (7 * i):=by
        rw [Nat.add_assoc,← Nat.mul_assoc,← Nat.add_mul]
        congr 2; omega
       have hle:acc+u % 128 * 2 ^ (7 * i) < 18446744073709551616:=Nat.lt_of_le_of_lt (by rw [← e2]; exact Nat.le_add_right _ _) hU
       unfold rvL
       rw [getD_of_drop hs,hb,if_pos (by omega),uS_nat _ _ _ ha (by omega) (by rw [hb,e1]; exact hle),hb]
       rw [e1]
       have hu2:u / 128 < 128 ^ (k+1):=by
        rw [Nat.pow_succ] at hu
        exact Nat.div_lt_of_lt_mul (by rw [Nat.mul_comm]; exact hu)
       have ih:=rvL_varL k m (i+1) (acc+u % 128 * 2 ^ (7 * i)) (u / 128) s a r hu2 (by omega) (by rw [hpow]; omega) (by rw [hpow,e2]; exact hU) (by omega) (drop_next hs) (by simpa using hm)
       rw [ih,hpow]
       rw [e2,List.length_cons,Nat.add_assoc,Nat.add_comm 1]
     · rw [if_neg h128] at hs hm ⊢
       rw [loB_nat u (by omega)] at hs
       exact last (by omega) hs
theorem strI_len (l:List Int):(strI l).length=l.length:=by unfold strI; rw [List.length_map]
abbrev w64 (n:Int):Int:=IntKind.i64.wrap n
theorem w64_u64 (n:Int):IntKind.i64.wrap (IntKind.u64.wrap n)=IntKind.i64.wrap n:=by
 unfold IntKind.wrap
 have e1:(2 ^ IntKind.i64.bits:Int)=18446744073709551616:=by decide
 have e2:(2 ^ (IntKind.i64.bits - 1):Int)=9223372036854775808:=by decide
 have e3:IntKind.i64.signed=true:=rfl
 have e4:(2 ^ IntKind.u64.bits:Int)=18446744073709551616:=by decide
 have e5:IntKind.u64.signed=false:=rfl
 simp only [e1,e2,e3,e4,e5,Bool.true_and,Bool.false_and,Bool.false_eq_true,if_false,decide_eq_true_eq,Int.emod_emod]
theorem u64_w64 (n:Int):IntKind.u64.wrap (IntKind.i64.wrap n)=IntKind.u64.wrap n:=by
 unfold IntKind.wrap
 have e1:(2 ^ IntKind.i64.bits:Int)=18446744073709551616:=by decide
 have e2:(2 ^ (IntKind.i64.bits - 1):Int)=9223372036854775808:=by decide
 have e3:IntKind.i64.signed=true:=rfl
 have e4:(2 ^ IntKind.u64.bits:Int)=18446744073709551616:=by decide
 have e5:IntKind.u64.signed=false:=rfl
 simp only [e1,e2,e3,e4,e5,Bool.true_and,Bool.false_and,Bool.false_eq_true,if_false,decide_eq_true_eq]
 split <;> omega
theorem varB_w (n:Int):varB (w64 n)=varB n:=by unfold varB; rw [u64_w64]
theorem rdVf_eq {s:List UInt8} {a:Nat} {n:Int} {r:List UInt8} (h:s.drop a=varB n ++ r):rdVf s a false=(w64 n,a+(varB n).length,false)∧s.drop (a+(varB n).length)=r:=by
 refine ⟨?_,by rw [← List.drop_drop,h,List.drop_left]⟩
 obtain ⟨h1,h2⟩:=u64_wrap n
 obtain ⟨u,hu⟩:∃ u:Nat,IntKind.u64.wrap n=(u:Int):=⟨_,(Int.toNat_of_nonneg h1).symm⟩
 have hb:varB n=strI (varL 9 (u:Int)):=by unfold varB; rw [hu]
 rw [hu] at h2
 have hl:(varB n).length=(varL 9 (u:Int)).length:=by rw [hb]; exact strI_len _
 have h5:=varB_len n
 have hd:s.length - a=(varB n).length+r.length:=by rw [← List.length_drop,h,List.length_append]
 have h128:(128:Nat) ^ (9+1)=1180591620717411303424:=by decide
 rw [hb] at h
 have:=rvL_varL 9 (rdM s a) 0 0 u s a r (by omega) (by omega) (by decide) (by omega) (by omega) h (by unfold rdM; omega)
 simp only [Nat.zero_add,Nat.mul_zero,Nat.pow_zero,Nat.mul_one] at this
 show rdV s a=_
 unfold rdV rdVar
 rw [show ((0:Nat):Int)=0 from rfl] at this
 rw [this,hl]
 simp only
 rw [← hu,w64_u64]
theorem rdT_eq {s:List UInt8} {a:Nat} {t r:List UInt8} (h:s.drop a=t ++ r):rdT s a false (t.length:Int)=(t,a+t.length,false)∧s.drop (a+t.length)=r:=by
 refine ⟨?_,by rw [← List.drop_drop,h,List.drop_left]⟩
 have hd:s.length - a=t.length+r.length:=by rw [← List.length_drop,h,List.length_append]
 unfold rdT
 rw [if_neg (by simp only [Bool.false_eq_true,false_or]; omega),h,Int.toNat_natCast,List.take_left']
 rfl
theorem rdTx_eq {s:List UInt8} {a:Nat} {t r:List UInt8} (ht:t.length ≤ 2000000) (h:s.drop a=textB t ++ r):rdTx s a false=(t,a+(textB t).length,false)∧s.drop (a+(textB t).length)=r:=by
 refine ⟨?_,by rw [← List.drop_drop,h,List.drop_left]⟩
 have h1:s.drop a=varB (Int.ofNat t.length) ++ (t ++ r):=by rw [h]; unfold textB; rw [List.append_assoc]
 obtain ⟨e1,h2⟩:=rdVf_eq h1
 obtain ⟨e2,h3⟩:=rdT_eq h2
 have ew:w64 (Int.ofNat t.length)=(t.length:Int):=wrap_id (by rw [hOn]; omega) (by rw [hOn]; omega)
 unfold rdTx
 rw [e1,ew]
 simp only
 rw [e2]
 unfold textB
 simp only [List.length_append,Bool.false_eq_true,if_false,Nat.add_assoc]
theorem rdN_eq {s:List UInt8} {a:Nat} {b:UInt8} {r:List UInt8} (h:s.drop a=[b] ++ r):rdN s a false 1=(Int.ofNat b.toNat,a+1,false)∧s.drop (a+1)=r:=by
 obtain ⟨e,h2⟩:=rdT_eq h
 refine ⟨?_,h2⟩
 have e:rdT s a false (Int.ofNat 1)=([b],a+1,false):=e
 unfold rdN
 rw [e]
 simp only [List.foldl_cons,List.foldl_nil]
 have hb:b.toNat < 256:=b.toNat_lt
 have:numS 0 b=Int.ofNat b.toNat:=by
  unfold numS
  rw [wrap_id (x:=(0:Int) * 256) (by decide) (by decide),wrap_id (x:=Int.ofNat b.toNat) (by rw [hOn]; omega) (by rw [hOn]; omega),BitVec.toNat_or]
  have e2:(BitVec.ofInt 64 (Int.ofNat b.toNat)).toNat=b.toNat:=by
   rw [hOn,BitVec.ofInt_natCast,BitVec.toNat_ofNat]; omega
  have e3:(BitVec.ofInt 64 ((0:Int) * 256)).toNat=0:=rfl
  rw [e2,e3,Nat.zero_or,wrap_id (by rw [hOn]; omega) (by rw [hOn]; omega)]
 rw [this]
theorem liF_eq {s:List UInt8}:∀ (l:List Int) (k:Nat) (a:Nat) (r:List UInt8),l.length < k→s.drop a=numsB l ++ r→liF s k (l.length:Int) a false=(l.map w64,a+(numsB l).length,false)∧s.drop (a+(numsB l).length)=r
 | [],k,a,r,hk,h=>by
   obtain ⟨k,rfl⟩:∃ j,k=j+1:=⟨k - 1,by simp at hk; omega⟩
   unfold liF
   rw [if_neg (by simp)]
   exact ⟨rfl,h⟩
 | n :: l,k,a,r,hk,h=>by
   obtain ⟨k,rfl⟩:∃ j,k=j+1:=⟨k - 1,by simp at hk; omega⟩
   have e0:numsB (n :: l)=varB n ++ numsB l:=rfl
   rw [e0] at h ⊢
   rw [List.append_assoc] at h
   obtain ⟨e1,h2⟩:=rdVf_eq h
   obtain ⟨e2,h3⟩:=liF_eq l k _ r (by simp at hk; omega) h2
   unfold liF
   rw [if_pos ⟨by simp only [List.length_cons]; omega,rfl⟩,e1]
   simp only
   rw [show ((n :: l).length:Int) - 1=(l.length:Int) by simp only [List.length_cons]; omega,e2]
   simp only [List.length_append,List.map_cons,← Nat.add_assoc]
   exact ⟨trivial,h3⟩
theorem rdLi_eq {s:List UInt8} {a:Nat} {l:List Int} {r:List UInt8} (hl:l.length ≤ 2000000) (h:s.drop a=varB (Int.ofNat l.length) ++ (numsB l ++ r)):∃ b,rdLi s a false=(l.map w64,b,false)∧s.drop b=r:=by
 obtain ⟨e1,h2⟩:=rdVf_eq h
 have ew:w64 (Int.ofNat l.length)=(l.length:Int):=wrap_id (by rw [hOn]; omega) (by rw [hOn]; omega)
 have hk:l.length < s.length+2:=by
  have h3:=congrArg List.length h2
  rw [List.length_drop,List.length_append] at h3
  have h4:∀ l:List Int,l.length ≤ (numsB l).length:=by
   intro l
   induction l with
   | nil=>exact Nat.le_refl _
   | cons n l ih=>
     have:=(varB_len n).1
     show l.length+1 ≤ (varB n ++ numsB l).length
     rw [List.length_append]; omega
  have:=h4 l
  omega
 obtain ⟨e2,h3⟩:=liF_eq l (s.length+2) _ r hk h2
 refine ⟨_,?_,h3⟩
 unfold rdLi
 rw [e1,ew]
 exact e2
theorem ppF_eq {s:List UInt8}:∀ (l:List (Int × Int)) (k:Nat) (a:Nat) (r:List UInt8),l.length < k→s.drop a=ptsB l ++ r→ppF s k (l.length:Int) a false=(l.map fun p=>(w64 p.1,w64 p.2),a+(ptsB l).length,false)∧s.drop (a+(ptsB l).length)=r
 | [],k,a,r,hk,h=>by
   obtain ⟨k,rfl⟩:∃ j,k=j+1:=⟨k - 1,by simp at hk; omega⟩
   unfold ppF
   rw [if_neg (by simp)]
   exact ⟨rfl,h⟩
 | (x,y) :: l,k,a,r,hk,h=>by
   obtain ⟨k,rfl⟩:∃ j,k=j+1:=⟨k - 1,by simp at hk; omega⟩
   have e0:ptsB ((x,y) :: l)=varB x ++ varB y ++ ptsB l:=rfl
   rw [e0] at h ⊢
   rw [List.append_assoc,List.append_assoc] at h
   obtain ⟨e1,h2⟩:=rdVf_eq h
   obtain ⟨e3,h4⟩:=rdVf_eq h2
   obtain ⟨e2,h3⟩:=ppF_eq l k _ r (by simp at hk; omega) h4
   unfold ppF
   rw [if_pos ⟨by simp only [List.length_cons]; omega,rfl⟩,e1]
   simp only
   rw [e3]
   simp only
   rw [show (((x,y) :: l).length:Int) - 1=(l.length:Int) by simp only [List.length_cons]; omega,e2]
   simp only [List.length_append,List.map_cons,← Nat.add_assoc]
   exact ⟨trivial,h3⟩
def wrF (f:FL):FL:=⟨w64 f.k,w64 f.r,f.ker.map w64,w64 f.dv,w64 f.vl,f.cu.map w64⟩
def wrP (p:P7):P7:=⟨w64 p.a,w64 p.b,w64 p.c,w64 p.d,w64 p.e,w64 p.f,w64 p.n⟩
def wrC (c:C4):C4:=fi4 (fiB c)
theorem numsB_w (l:List Int):numsB (l.map w64)=numsB l:=by
 unfold numsB
 rw [List.map_map]
 exact congrArg _ (List.map_congr_left fun n _=>varB_w n)
theorem ptsB_w (l:List (Int × Int)):ptsB (l.map fun p=>(w64 p.1,w64 p.2))=ptsB l:=by
 unfold ptsB
 rw [List.map_map]
 exact congrArg _ (List.map_congr_left fun p _=>by simp only [Function.comp,varB_w])
theorem nums3_w (a b c:Int):numsB [w64 a,w64 b,c]=numsB [a,b,c]:=by
 show varB (w64 a) ++ (varB (w64 b) ++ (varB c ++ []))=varB a ++ (varB b ++ (varB c ++ []))
 rw [varB_w,varB_w]
theorem bytesF_w (f:FL):bytesF (wrF f)=bytesF f:=by
 unfold bytesF wrF
 simp only [numsB_w,List.length_map,nums3_w]
theorem plcB_w (p:P7):plcB (wrP p)=plcB p:=by unfold plcB wrP; simp only [varB_w]
theorem fiB_w (c:C4):fiB (wrC c)=fiB c:=by
 unfold wrC fi4 fiB
 simp only [List.getD_cons_zero,List.getD_cons_succ,Int.toNat_natCast,hOn,UInt8.ofNat_toNat]
end Go.Proofs.YtmjggdmekboefaaGreatDoor
namespace Go.Proofs.YtmjggdmekboefaaGreatDoor
open Go Go.Eng
structure okY (l:Lay):Prop extends okL l where
 con:l.con=[]
 msk:l.msk=[]
def GoodR (s:List UInt8) (v:V):Prop:=(∃ l,okY l∧headF l=s∧v= .tup [l.v,iX 0]) ∨ (v= .tup [zLay.v,iX 11]∧∀ l0,okL l0→headF l0 ≠ s)
def CC (s:List UInt8) (a:Nat) (f:Bool) (y:Lay) (T:Lay→List UInt8) (Y:Lay→Lay):Prop:=∀ l0,okL l0→headF l0=s→f=false∧s.drop a=T l0∧y=Y l0
def TR (s:List UInt8) (c:Code) (S:St):Prop:=∃ v,GoodR s v∧TG Tryz.prog 3 Tryz.f13.ntmps c S (RetG Tryz.prog 3 Tryz.f13 (FzN v))
section
variable {W:CtrW} {hh:List (Nat × List (Nat × Fix))} {H:List (Nat × Fix)} {live:List Nat} {A:List Prop} {S s1:St} {c:Code} {s:List UInt8}
theorem TR.st (k:Nat) (X:CtrWOk Tryz.prog W) (hr:RunE (csH W hh) H 3 Tryz.f13 live (headN k c) S [([],A,.to .normal s1)]) (hA:∀ a ∈ A,a) (h:TR s (tailN k c) s1) (hc:codeOk Tryz.f13.ntmps c=true:=by kernel_rfl):TR s c S:=
 h.elim fun v h=>⟨v,h.1,isE1 k X hr hA h.2 hc⟩
theorem TR.goes {S1:St} (h:Goes Tryz.prog 3 Tryz.f13.ntmps S S1) (t:TR s c S1):TR s c S:=t.elim fun v t=>⟨v,t.1,h _ _ t.2⟩
theorem TR.code {d:Code} (e:c=d) (t:TR s d S):TR s c S:=e ▸ t
end
def T15 (l:Lay):List UInt8:=varB (Int.ofNat l.pth.length) ++ ptsB l.pth
def T14 (l:Lay):List UInt8:=fiB l.fi ++ T15 l
def T13 (l:Lay):List UInt8:=varB (Int.ofNat l.f.cu.length) ++ (numsB l.f.cu ++ T14 l)
def T12 (l:Lay):List UInt8:=varB l.f.dv ++ (varB l.f.vl ++ T13 l)
def T11 (l:Lay):List UInt8:=varB (Int.ofNat l.f.ker.length) ++ (numsB l.f.ker ++ T12 l)
def T10 (l:Lay):List UInt8:=varB l.f.k ++ (varB l.f.r ++ T11 l)
def T9 (l:Lay):List UInt8:=varB l.of ++ T10 l
def T8 (l:Lay):List UInt8:=varB (Int.ofNat l.kids.length) ++ (numsB l.kids ++ T9 l)
def T7 (l:Lay):List UInt8:=varB l.sp ++ T8 l
def T6 (l:Lay):List UInt8:=varB l.pl.a ++ (varB l.pl.b ++ (varB l.pl.c ++ (varB l.pl.d ++ (varB l.pl.e ++ (varB l.pl.f ++ (varB l.pl.n ++ T7 l))))))
def T5 (l:Lay):List UInt8:=varB l.op ++ (varB l.md ++ T6 l)
def T3 (l:Lay):List UInt8:=[pB (flg l.hid l.clip l.hm) 1] ++ T5 l
def T2 (l:Lay):List UInt8:=varB l.id ++ (varB l.kd ++ (textB l.nm ++ T3 l))
theorem headF_T (l:Lay):headF l=T2 l:=by
 unfold headF T2 T3 T5 T6 T7 T8 T9 T10 T11 T12 T13 T14 T15 plcB bytesF put1
 have h3:∀ a b c,numsB [a,b,c]=varB a ++ (varB b ++ varB c):=fun a b c=>by
  show varB a ++ (varB b ++ (varB c ++ []))=_
  rw [List.append_nil]
 simp only [h3,List.append_assoc,List.cons_append,List.nil_append]
def Y3 (l:Lay):Lay:={ zLay with id:=w64 l.id,kd:=w64 l.kd,nm:=l.nm }
def Y5 (l:Lay):Lay:={ Y3 l with hid:=l.hid,clip:=l.clip,hm:=l.hm }
def Y6 (l:Lay):Lay:={ Y5 l with op:=w64 l.op,md:=w64 l.md }
def Y7 (l:Lay):Lay:={ Y6 l with pl:=wrP l.pl }
def Y8 (l:Lay):Lay:={ Y7 l with sp:=w64 l.sp }
def Y9 (l:Lay):Lay:={ Y8 l with kids:=l.kids.map w64 }
def Y10 (l:Lay):Lay:={ Y9 l with of:=w64 l.of }
def Y11 (l:Lay):Lay:={ Y10 l with f:={ zFL with k:=w64 l.f.k,r:=w64 l.f.r } }
def Y12 (l:Lay):Lay:={ Y11 l with f:={ (Y11 l).f with ker:=l.f.ker.map w64 } }
def Y13 (l:Lay):Lay:={ Y12 l with f:={ (Y12 l).f with dv:=w64 l.f.dv,vl:=w64 l.f.vl } }
def Y14 (l:Lay):Lay:={ Y13 l with f:={ (Y13 l).f with cu:=l.f.cu.map w64 } }
def Y15 (l:Lay):Lay:={ Y14 l with fi:=wrC l.fi }
def Y16 (l:Lay):Lay:={ Y15 l with pth:=l.pth.map fun p=>(w64 p.1,w64 p.2) }
theorem headF_Y (l:Lay):headF (Y16 l)=headF l:=by
 have e1:headF (Y16 l)=varB (w64 l.id) ++ varB (w64 l.kd) ++ (textB l.nm ++ put1 (flg l.hid l.clip l.hm)) ++ varB (w64 l.op) ++ varB (w64 l.md) ++ plcB (wrP l.pl) ++ varB (w64 l.sp) ++ varB (Int.ofNat (l.kids.map w64).length) ++ numsB (l.kids.map w64) ++ varB (w64 l.of) ++ bytesF (wrF l.f) ++ fiB (wrC l.fi) ++ varB (Int.ofNat (l.pth.map fun p=>(w64 p.1,w64 p.2)).length) ++ ptsB (l.pth.map fun p=>(w64 p.1,w64 p.2)):=rfl
 rw [e1]
 unfold headF
 simp only [varB_w,numsB_w,ptsB_w,bytesF_w,plcB_w,fiB_w,List.length_map]
theorem rd_end (y:Lay) (s:List UInt8) (a:Nat) (f:Bool) (n:Int) (i:Nat) (hy:okY y) (hC:∀ l0,okL l0→headF l0=s→f=false∧headF y=s):∃ v,GoodR s v∧∀ m,TG Tryz.prog 3 Tryz.f13.ntmps (seqR tlR7) (stG (fR s [(10,iX n),(11,iW i)]) (hEnd y s a f) (m+6)) (RetG Tryz.prog 3 Tryz.f13 (FzN v)):=by
 have X:=pinK (headD y hy.tookL) W19_ok
 have hr:=fun m=>rd_k y s (headF y) a m f n i
 by_cases h:f=false∧headF y=s
 · refine ⟨.tup [y.v,iX 0],.inl ⟨y,hy,h.2,rfl⟩,fun m=>retE X (hr m) (gcons (g2 fun h1 _=>?_) (gcons (g2 fun h1 h2=>Bool.noConfusion h2) (gcons (g2 fun h1 h2=>?_) (gone (g2 fun h1 h2=>⟨fm1 rfl,_,_,_,rfl,FzN.self (by kernel_rfl) (by kernel_rfl)⟩)))))⟩
   · rw [h.1] at h1; cases h1
   · exact absurd h.2 (beqN (by simpa using h2))
 · refine ⟨.tup [zLay.v,iX 11],.inr ⟨rfl,fun l0 h1 h2=>h (hC l0 h1 h2)⟩,fun m=>retE X (hr m) (gcons (g2 fun h1 _=>⟨all_nil,_,_,_,rfl,FzN.self (by kernel_rfl) (by kernel_rfl)⟩) (gcons (g2 fun h1 h2=>Bool.noConfusion h2) (gcons (g2 fun h1 h2=>⟨fm1 rfl,_,_,_,rfl,FzN.self (by kernel_rfl) (by kernel_rfl)⟩) (gone (g2 fun h1 h2=>?_)))))⟩
   exact absurd ⟨h1,beqE (by simpa using h2)⟩ h
theorem rd_pts (y:Lay) (s:List UInt8) (b:Nat) (g:Bool) (n:Int) (h1:b ≤ s.length) (hs:s.length ≤ 1500000) (hy:okY y) (hC:∀ l0,okL l0→headF l0=s→g=false∧s.drop b=ptsB l0.pth∧n=Int.ofNat l0.pth.length∧y=Y15 l0):TR s tlR7 (sRd y s b g [(10,iX n)]):=by
 have h9:s.length ≤ 1000000000:=by omega
 have hl:=ppF_at s (s.length+2) n b g h1
 generalize hT:ppF s (s.length+2) n b g=T at hl
 obtain ⟨l0,a0,f0⟩:=T
 simp only at hl
 have hC2:∀ l1,okL l1→headF l1=s→f0=false∧headF { y with pth:=l0 }=s:=fun l1 k1 k2=>by
  obtain ⟨rfl,k3,rfl,rfl⟩:=hC l1 k1 k2
  have hk:l1.pth.length < s.length+2:=by
   have h3:=congrArg List.length k3
   rw [List.length_drop] at h3
   have h4:∀ l:List (Int × Int),l.length ≤ (ptsB l).length:=by
    intro l
    induction l with
    | nil=>exact Nat.le_refl _
    | cons n l ih=>
      have:=(varB_len n.1).1
      show l.length+1 ≤ (varB n.1 ++ varB n.2 ++ ptsB l).length
      rw [List.length_append,List.length_append]; omega
   have:=h4 l1.pth
   omega
  obtain ⟨k4,_⟩:=ppF_eq (s:=s) l1.pth (s.length+2) b [] hk (by rw [k3,List.append_nil])
  rw [show (Int.ofNat l1.pth.length:Int)=(l1.pth.length:Int) from rfl,k4] at hT
  simp only [Prod.mk.injEq] at hT
  obtain ⟨rfl,_,rfl⟩:=hT
  exact ⟨rfl,(headF_Y l1).trans k2⟩
 obtain ⟨v,gv,hend⟩:=rd_end { y with pth:=l0 } s a0 f0 n l0.length ⟨⟨hy.nm,hy.kids,hy.ker,hy.cu,by show l0.length ≤ _; omega⟩,hy.con,hy.msk⟩ hC2
 refine ⟨v,gv,?_⟩
 have fin0:l0=[]→TG Tryz.prog 3 Tryz.f13.ntmps (seqR tlR7) (sRd y s a0 f0 [(10,iX n),(11,iW 0)]) (RetG Tryz.prog 3 Tryz.f13 (FzN v)):=fun e=>by
  subst e
  refine Goes.step (Step.nlAt 5 [27] ?_) _ _ (hend 0)
  kernel_rfl
 have fin1:l0 ≠ []→TG Tryz.prog 3 Tryz.f13.ntmps (seqR tlR7) (sRq y s a0 f0 n l0.length l0.length (ptD l0)) (RetG Tryz.prog 3 Tryz.f13 (FzN v)):=fun _=>by
  refine Goes.fzG [6] [0,2,4,5,10,11] (A:=[(ptD l0).length=l0.length * 2]) ?_ (fm1 (ptD_len _)) _ _ (hend 0)
  kernel_rfl
 refine loopF (α:=Nat × List (Int × Int) × Nat × Bool) W19_ok 2 _ [0,2,4,5,10,11] (·.1) (fun x=>x.2.2.1 ≤ s.length∧msr s x.2.2.1 x.2.2.2 < x.1∧x.2.1.length+x.1 ≤ s.length+2∧(x.2.1 ++ (ppF s x.1 (n - x.2.1.length) x.2.2.1 x.2.2.2).1,(ppF s x.1 (n - x.2.1.length) x.2.2.1 x.2.2.2).2)=(l0,a0,f0)) (sP y s n) (s.length+2,[],b,g)
  ⟨h1,by unfold msr; simp only; split <;> omega,by simp,by simp only [List.nil_append,List.length_nil,Int.natCast_zero,Int.sub_zero]; rw [hT]⟩ (rd_h y s b g n) all_nil .refl ?_
 rintro ⟨k,l,c,q⟩ ⟨i1,i2,i3,i4⟩
 simp only at i1 i2 i3 i4
 obtain ⟨j,rfl⟩:∃ j,k=j+1:=⟨k - 1,by omega⟩
 unfold ppF at i4
 have hgo:Int.ofNat l.length < n→q=false→∀ S,S=sP y s n (j,l ++ [((rdVf s c q).1,(rdVf s (rdVf s c q).2.1 (rdVf s c q).2.2).1)],(rdVf s (rdVf s c q).2.1 (rdVf s c q).2.2).2.1,(rdVf s (rdVf s c q).2.1 (rdVf s c q).2.2).2.2)→∀ s',Goes Tryz.prog 3 Tryz.f13.ntmps s' S→∃ x':Nat × List (Int × Int) × Nat × Bool,x'.1 < j+1∧(x'.2.2.1 ≤ s.length∧msr s x'.2.2.1 x'.2.2.2 < x'.1∧x'.2.1.length+x'.1 ≤ s.length+2∧(x'.2.1 ++ (ppF s x'.1 (n - x'.2.1.length) x'.2.2.1 x'.2.2.2).1,(ppF s x'.1 (n - x'.2.1.length) x'.2.2.1 x'.2.2.2).2)=(l0,a0,f0))∧Goes Tryz.prog 3 Tryz.f13.ntmps s' (sP y s n x'):=by
  rintro hlt rfl S rfl s' hS
  have k1:=rdVf_at s c false i1
  refine ⟨(j,l ++ [((rdVf s c false).1,(rdVf s (rdVf s c false).2.1 (rdVf s c false).2.2).1)],(rdVf s (rdVf s c false).2.1 (rdVf s c false).2.2).2.1,(rdVf s (rdVf s c false).2.1 (rdVf s c false).2.2).2.2),Nat.lt_succ_self j,⟨rdVf_at s _ _ k1,?_,by simp only [List.length_append,List.length_cons,List.length_nil]; omega,?_⟩,hS⟩
  · have:=msr_lt i1
    have:=msr_le (f:=(rdVf s c false).2.2) k1
    simp only; omega
  · rw [if_pos ⟨by rw [hOn] at hlt; omega,rfl⟩] at i4
    rw [← i4]
    have e:n - ((l ++ [((rdVf s c false).1,(rdVf s (rdVf s c false).2.1 (rdVf s c false).2.2).1)]).length:Nat)=n - l.length - 1:=by simp only [List.length_append,List.length_cons,List.length_nil]; omega
    simp only [e,List.append_assoc,List.singleton_append]
 have hend:¬ (Int.ofNat l.length < n∧q=false)→l=l0∧c=a0∧q=f0:=fun h=>by
  rw [if_neg (fun x=>h ⟨by have:=x.1; rw [hOn]; omega,x.2⟩)] at i4
  simp only [List.append_nil,Prod.mk.injEq] at i4
  exact i4
 have B1:(0:Int) ≤ Int.ofNat c∧c ≤ s.length:=⟨Int.natCast_nonneg _,i1⟩
 have B2:(0:Int) ≤ Int.ofNat (rdVf s c q).snd.fst∧(Int.ofNat (rdVf s c q).snd.fst).toNat ≤ s.length:=⟨Int.natCast_nonneg _,rdVf_at s c q i1⟩
 cases l with
 | nil=>
   refine ⟨_,W19_ok,[],_,_,rd_i y s c q n 0,gcons (g2 fun h h2=>?_) (gcons (g2 fun h h2=>⟨all_nil,rfl,?_⟩) (gcons (g2 fun h h2=>Bool.noConfusion h2) (gone (g2 fun h h2=>⟨all_nil,rfl,?_⟩))))⟩
   · refine ⟨fm B1 (fm h9 (fm B2 (fm h9 (fm1 rfl)))),hgo (of_decide_eq_true h) (by simpa using h2) _ rfl _ ?_⟩
     exact .deep [6] (by kernel_rfl)
   · obtain ⟨e1,rfl,rfl⟩:=hend (fun x=>by rw [x.2] at h2; cases h2)
     exact fin0 e1.symm
   · obtain ⟨e1,rfl,rfl⟩:=hend (fun x=>of_decide_eq_false h x.1)
     exact fin0 e1.symm
 | cons x r=>
   have h4:=rd_j y s c q n (x :: r).length (x :: r)
   rw [ptD_app] at h4
   have hfin:¬ (Int.ofNat (x :: r).length < n∧q=false)→TG Tryz.prog 3 Tryz.f13.ntmps (seqR tlR7) (sRq y s c q n (x :: r).length (x :: r).length (ptD (x :: r))) (RetG Tryz.prog 3 Tryz.f13 (FzN v)):=fun h=>by
    obtain ⟨rfl,rfl,rfl⟩:=hend h
    exact fin1 (by simp)
   refine ⟨_,W19_ok,[],_,_,h4,gcons (g2 fun h h2=>?_) (gcons (g2 fun h h2=>⟨all_nil,rfl,?_⟩) (gcons (g2 fun h h2=>Bool.noConfusion h2) (gone (g2 fun h h2=>⟨all_nil,rfl,?_⟩))))⟩
   · refine ⟨fm B1 (fm h9 (fm B2 (fm h9 (fm (by rw [ptD_len]; omega) (fm (by decide) (fm (roomy_ok16 (by omega)) (fm1 (vsuc (by omega))))))))),hgo (of_decide_eq_true h) (by simpa using h2) _ ?_ _ .refl⟩
     have e1:(x :: r ++ [((rdVf s c q).1,(rdVf s (rdVf s c q).2.1 (rdVf s c q).2.2).1)]).length=(x :: r).length+1:=by rw [List.length_append]; rfl
     show _=sRq y s _ _ n (x :: r ++ [((rdVf s c q).1,(rdVf s (rdVf s c q).2.1 (rdVf s c q).2.2).1)]).length (x :: r ++ [((rdVf s c q).1,(rdVf s (rdVf s c q).2.1 (rdVf s c q).2.2).1)]).length _
     rw [e1]
   · exact hfin fun x=>by rw [x.2] at h2; cases h2
   · exact hfin fun x=>of_decide_eq_false h x.1
end Go.Proofs.YtmjggdmekboefaaGreatDoor
namespace Go.Proofs.YtmjggdmekboefaaGreatDoor
open Go Go.Eng
theorem tailN_seqC (a b:Nat) (c:Code):tailN a (tailN b c)=tailN (b+a) c:=tailN_seq b a c
section
variable {s:List UInt8} (hs:s.length ≤ 1500000)
include hs
theorem h9':s.length ≤ 1000000000:=by omega
theorem B0 {a:Nat} (ha:a ≤ s.length):(0:Int) ≤ Int.ofNat a∧a ≤ s.length:=⟨Int.natCast_nonneg _,ha⟩
theorem rd_G (y:Lay) (a:Nat) (f:Bool) (ha:a ≤ s.length) (hy:okY y) (hC:CC s a f y T15 Y15):TR s (tailN 15 cdRd) (sRd y s a f []):=by
 refine TR.st 1 W19_ok (rd_g y s a f) (fm (B0 hs ha) (fm1 (h9' hs))) ?_
 rw [tailN_seqC]
 refine rd_pts y s _ _ _ (rdVf_at s a f ha) hs hy fun l0 k1 k2=>?_
 obtain ⟨rfl,k3,rfl⟩:=hC l0 k1 k2
 obtain ⟨e1,k4⟩:=rdVf_eq k3
 have ew:w64 (Int.ofNat l0.pth.length)=Int.ofNat l0.pth.length:=wrap_id (by rw [hOn]; have:=k1.pth; omega) (by rw [hOn]; have:=k1.pth; omega)
 rw [e1,ew]
 exact ⟨rfl,k4,rfl,rfl⟩
theorem rdT4 (a:Nat) (f:Bool) (h:(rdT s a f 4).1 ≠ []):(rdT s a f 4).1.length=4:=by
 unfold rdT at h ⊢
 split
 · rename_i q; rw [if_pos q] at h; exact absurd rfl h
 · rename_i q
   simp only [List.length_take,List.length_drop]
   have:¬ ((s.length - a:Nat):Int) < 4:=fun x=>q (.inr (.inr x))
   show min 4 _=4
   omega
theorem rd_F (y:Lay) (a:Nat) (f:Bool) (ha:a ≤ s.length) (hy:okY y) (hC:CC s a f y T14 Y14):TR s (tailN 14 cdRd) (sRd y s a f []):=by
 have hr:=rd_f y s a f
 have ht:=rdT_at s a f 4 ha
 by_cases e:(rdT s a f 4).1=[]
 · obtain ⟨v,gv,hT⟩:=rd_G hs y _ (rdT s a f 4).2.2 ht hy (fun l0 k1 k2=>absurd e (by
    obtain ⟨rfl,k3,_⟩:=hC l0 k1 k2
    rw [show (4:Int)=((fiB l0.fi).length:Int) from rfl,(rdT_eq k3).1]
    intro q; cases q))
   refine ⟨v,gv,isEN 1 W19_ok hr (gcons (g1 fun h=>?_) (gone (g1 fun h=>⟨fm (B0 hs ha) (fm1 (h9' hs)),_,rfl,?_⟩)))⟩
   · exact absurd e (beqN (by simpa using h))
   · rw [tailN_seqC]; exact hT
 · have e4:=rdT4 hs a f e
   obtain ⟨v,gv,hT⟩:=rd_G hs { y with fi:=fi4 (rdT s a f 4).1 } _ (rdT s a f 4).2.2 ht ⟨⟨hy.nm,hy.kids,hy.ker,hy.cu,hy.pth⟩,hy.con,hy.msk⟩ (fun l0 k1 k2=>by
    obtain ⟨rfl,k3,rfl⟩:=hC l0 k1 k2
    obtain ⟨e1,k4⟩:=rdT_eq k3
    rw [show (4:Int)=((fiB l0.fi).length:Int) from rfl,e1]
    exact ⟨rfl,k4,rfl⟩)
   refine ⟨v,gv,isEN 1 W19_ok hr (gcons (g1 fun h=>⟨?_,_,rfl,?_⟩) (gone (g1 fun h=>?_)))⟩
   · refine fm (B0 hs ha) (fm (h9' hs) (fm ⟨by decide,?_⟩ (fm ⟨by decide,?_⟩ (fm ⟨by decide,?_⟩ (fm1 ⟨by decide,?_⟩)))))
     all_goals exact Nat.lt_of_lt_of_eq (by decide) e4.symm
   · rw [tailN_seqC]; exact hT
   · exact absurd (beqE (by simpa using h)) e
theorem rd_L (k ix:Nat) (y:Lay) (a:Nat) (f:Bool) (ha:a ≤ s.length)
  (rn:∀ b g,RunE (csH (pinW 46 [rP] (hR y s a f) 6 nilS (hR y s b g) 6 W19) []) [] 3 Tryz.f13 [0,2,4,5] (headN 1 (tailN k cdRd)) (sRd y s a f []) [([],[[rP]=[rP]∧hR y s a f=hR y s a f∧6=6],.to .normal (stG (fR s []) (mR s b g (y.rc.set ix nilS)) 6))])
  (ro:∀ b g (l:List Int),RunE (csH (pinW 46 [rP] (hR y s a f) 6 (.slc (some (6,0)) l.length l.length 1) (hRo y s b g l) 7 W19) []) [] 3 Tryz.f13 [0,2,4,5] (headN 1 (tailN k cdRd)) (sRd y s a f []) [([],[[rP]=[rP]∧hR y s a f=hR y s a f∧6=6],.to .normal (stG (fR s []) (mRo s b g (y.rc.set ix (.slc (some (6,0)) l.length l.length 1)) l) 7))])
  (y2:List Int→Lay) (hn:∀ b g,nlAt 5 [ix] (stG (fR s []) (mR s b g (y.rc.set ix nilS)) 6)=some (sRd (y2 []) s b g []))
  (ho:∀ b g l,fzG 3 [6] [0,2,4,5] (stG (fR s []) (mRo s b g (y.rc.set ix (.slc (some (6,0)) l.length l.length 1)) l) 7)=some ([(isD l).length=l.length * 1],sRd (y2 l) s b g []))
  (nx:∀ b g l,rdLi s a f=(l,b,g)→b ≤ s.length→l.length ≤ s.length+2→TR s (tailN (k+1) cdRd) (sRd (y2 l) s b g [])) (hc:codeOk Tryz.f13.ntmps (tailN k cdRd)=true:=by kernel_rfl):TR s (tailN k cdRd) (sRd y s a f []):=by
 have hl:=rdLi_at (f:=f) ha
 have t:=nx (rdLi s a f).2.1 (rdLi s a f).2.2 (rdLi s a f).1 rfl hl.1 hl.2
 have hlt:46 < Tryz.prog.funcs.size:=Nat.le_of_ble_eq_true (by kernel_rfl)
 by_cases e:(rdLi s a f).1=[]
 · refine TR.st 1 (pinW_ok hlt (liIs0 y s a f ha (by omega) e) W19_ok) (rn _ _) (fm1 ⟨rfl,rfl,rfl⟩) ?_ hc
   rw [tailN_seqC]
   rw [e] at t
   exact TR.goes (.step (.nlAt 5 [ix] (hn _ _))) t
 · refine TR.st 1 (pinW_ok hlt (liIs1 y s a f ha (by omega) e) W19_ok) (ro _ _ _) (fm1 ⟨rfl,rfl,rfl⟩) ?_ hc
   rw [tailN_seqC]
   exact TR.goes (Goes.fzG [6] [0,2,4,5] (ho _ _ _) (fm1 (isD_len _))) t
theorem rd_E (y:Lay) (a:Nat) (f:Bool) (ha:a ≤ s.length) (hy:okY y) (hC:CC s a f y T13 Y13):TR s (tailN 13 cdRd) (sRd y s a f []):=
 rd_L hs 13 22 y a f ha (fun b g=>rd_en y s a f b g) (fun b g l=>rd_eo y s a f b g l) (fun l=>{ y with f:={ y.f with cu:=l } }) (fun _ _=>by kernel_rfl) (fun _ _ _=>by kernel_rfl)
  fun b g l he hb hl=>rd_F hs _ b g hb ⟨⟨hy.nm,hy.kids,hy.ker,by show l.length ≤ _; omega,hy.pth⟩,hy.con,hy.msk⟩ (fun l0 k1 k2=>by
   obtain ⟨rfl,k3,rfl⟩:=hC l0 k1 k2
   obtain ⟨b1,e1,k4⟩:=rdLi_eq (k1.cu) k3
   rw [e1] at he
   simp only [Prod.mk.injEq] at he
   obtain ⟨rfl,rfl,rfl⟩:=he
   exact ⟨rfl,k4,rfl⟩)
theorem rd_D (y:Lay) (a:Nat) (f:Bool) (ha:a ≤ s.length) (hy:okY y) (hC:CC s a f y T12 Y12):TR s (tailN 12 cdRd) (sRd y s a f []):=by
 have h1:=rdVf_at s a f ha
 refine TR.st 1 W19_ok (rd_d y s a f) (fm (B0 hs ha) (fm (h9' hs) (fm (B0 hs h1) (fm1 (h9' hs))))) ?_
 rw [tailN_seqC]
 exact rd_E hs _ _ _ (rdVf_at s _ _ h1) ⟨⟨hy.nm,hy.kids,hy.ker,hy.cu,hy.pth⟩,hy.con,hy.msk⟩ (fun l0 k1 k2=>by
  obtain ⟨rfl,k3,rfl⟩:=hC l0 k1 k2
  obtain ⟨e1,k4⟩:=rdVf_eq k3
  rw [e1]
  obtain ⟨e2,k5⟩:=rdVf_eq k4
  simp only
  rw [e2]
  exact ⟨rfl,k5,rfl⟩)
theorem rd_C (y:Lay) (a:Nat) (f:Bool) (ha:a ≤ s.length) (hy:okY y) (hC:CC s a f y T11 Y11):TR s (tailN 11 cdRd) (sRd y s a f []):=
 rd_L hs 11 19 y a f ha (fun b g=>rd_cn y s a f b g) (fun b g l=>rd_co y s a f b g l) (fun l=>{ y with f:={ y.f with ker:=l } }) (fun _ _=>by kernel_rfl) (fun _ _ _=>by kernel_rfl)
  fun b g l he hb hl=>rd_D hs _ b g hb ⟨⟨hy.nm,hy.kids,by show l.length ≤ _; omega,hy.cu,hy.pth⟩,hy.con,hy.msk⟩ (fun l0 k1 k2=>by
   obtain ⟨rfl,k3,rfl⟩:=hC l0 k1 k2
   obtain ⟨b1,e1,k4⟩:=rdLi_eq (k1.ker) k3
   rw [e1] at he
   simp only [Prod.mk.injEq] at he
   obtain ⟨rfl,rfl,rfl⟩:=he
   exact ⟨rfl,k4,rfl⟩)
theorem rd_B (y:Lay) (a:Nat) (f:Bool) (ha:a ≤ s.length) (hy:okY y) (hC:CC s a f y T10 Y10):TR s (tailN 10 cdRd) (sRd y s a f []):=by
 have h1:=rdVf_at s a f ha
 refine TR.st 1 W19_ok (rd_b y s a f) (fm (B0 hs ha) (fm (h9' hs) (fm (B0 hs h1) (fm1 (h9' hs))))) ?_
 rw [tailN_seqC]
 exact rd_C hs _ _ _ (rdVf_at s _ _ h1) ⟨⟨hy.nm,hy.kids,hy.ker,hy.cu,hy.pth⟩,hy.con,hy.msk⟩ (fun l0 k1 k2=>by
  obtain ⟨rfl,k3,rfl⟩:=hC l0 k1 k2
  obtain ⟨e1,k4⟩:=rdVf_eq k3
  rw [e1]
  obtain ⟨e2,k5⟩:=rdVf_eq k4
  simp only
  rw [e2]
  exact ⟨rfl,k5,rfl⟩)
theorem rd_A (y:Lay) (a:Nat) (f:Bool) (ha:a ≤ s.length) (hy:okY y) (hC:CC s a f y T9 Y9):TR s (tailN 9 cdRd) (sRd y s a f []):=by
 refine TR.st 1 W19_ok (rd_a y s a f) (fm (B0 hs ha) (fm1 (h9' hs))) ?_
 rw [tailN_seqC]
 exact rd_B hs _ _ _ (rdVf_at s a f ha) ⟨⟨hy.nm,hy.kids,hy.ker,hy.cu,hy.pth⟩,hy.con,hy.msk⟩ (fun l0 k1 k2=>by
  obtain ⟨rfl,k3,rfl⟩:=hC l0 k1 k2
  obtain ⟨e1,k4⟩:=rdVf_eq k3
  rw [e1]
  exact ⟨rfl,k4,rfl⟩)
theorem rd_9 (y:Lay) (a:Nat) (f:Bool) (ha:a ≤ s.length) (hy:okY y) (hC:CC s a f y T8 Y8):TR s (tailN 8 cdRd) (sRd y s a f []):=
 rd_L hs 8 15 y a f ha (fun b g=>rd_9n y s a f b g) (fun b g l=>rd_9o y s a f b g l) (fun l=>{ y with kids:=l }) (fun _ _=>by kernel_rfl) (fun _ _ _=>by kernel_rfl)
  fun b g l he hb hl=>rd_A hs _ b g hb ⟨⟨hy.nm,by show l.length ≤ _; omega,hy.ker,hy.cu,hy.pth⟩,hy.con,hy.msk⟩ (fun l0 k1 k2=>by
   obtain ⟨rfl,k3,rfl⟩:=hC l0 k1 k2
   obtain ⟨b1,e1,k4⟩:=rdLi_eq (k1.kids) k3
   rw [e1] at he
   simp only [Prod.mk.injEq] at he
   obtain ⟨rfl,rfl,rfl⟩:=he
   exact ⟨rfl,k4,rfl⟩)
theorem rd_8' (y:Lay) (a:Nat) (f:Bool) (ha:a ≤ s.length) (hy:okY y) (hC:CC s a f y T7 Y7):TR s (tailN 7 cdRd) (sRd y s a f [(42,plP),(43,iW 7)]):=by
 refine TR.st 1 W19_ok (rd_8 y s a f) (fm (B0 hs ha) (fm1 (h9' hs))) ?_
 rw [tailN_seqC]
 exact rd_9 hs _ _ _ (rdVf_at s a f ha) ⟨⟨hy.nm,hy.kids,hy.ker,hy.cu,hy.pth⟩,hy.con,hy.msk⟩ (fun l0 k1 k2=>by
  obtain ⟨rfl,k3,rfl⟩:=hC l0 k1 k2
  obtain ⟨e1,k4⟩:=rdVf_eq k3
  rw [e1]
  exact ⟨rfl,k4,rfl⟩)
def plT (s:List UInt8) (p:P7) (a:Nat) (f:Bool):Nat→P7 × Nat × Bool
 | 0=>(p,a,f)
 | i+1=>(updP i (plT s p a f i).1 (rdVf s (plT s p a f i).2.1 (plT s p a f i).2.2).1,(rdVf s (plT s p a f i).2.1 (plT s p a f i).2.2).2)
omit hs in
theorem plT_at (p:P7) (a:Nat) (f:Bool) (ha:a ≤ s.length):∀ i,(plT s p a f i).2.1 ≤ s.length
 | 0=>ha
 | i+1=>rdVf_at s _ _ (plT_at p a f ha i)
theorem plT_eq {y:Lay} {a:Nat} {f:Bool} (hC:CC s a f y T6 Y6):CC s (plT s y.pl a f 7).2.1 (plT s y.pl a f 7).2.2 { y with pl:=(plT s y.pl a f 7).1 } T7 Y7:=fun l0 k1 k2=>by
 obtain ⟨rfl,k3,rfl⟩:=hC l0 k1 k2
 obtain ⟨e1,k3⟩:=rdVf_eq k3
 obtain ⟨e2,k3⟩:=rdVf_eq k3
 obtain ⟨e3,k3⟩:=rdVf_eq k3
 obtain ⟨e4,k3⟩:=rdVf_eq k3
 obtain ⟨e5,k3⟩:=rdVf_eq k3
 obtain ⟨e6,k3⟩:=rdVf_eq k3
 obtain ⟨e7,k3⟩:=rdVf_eq k3
 simp only [plT,e1,e2,e3,e4,e5,e6,e7]
 exact ⟨trivial,k3,rfl⟩
theorem e7:seqR tlR6=tailN 7 cdRd:=by kernel_rfl
theorem rd_6' (y:Lay) (a:Nat) (f:Bool) (ha:a ≤ s.length) (hy:okY y) (hC:CC s a f y T6 Y6):TR s (tailN 6 cdRd) (sRd y s a f []):=by
 have at':=plT_at y.pl a f ha
 obtain ⟨v,gv,hT⟩:=rd_8' hs { y with pl:=(plT s y.pl a f 7).1 } _ (plT s y.pl a f 7).2.2 (at' 7) ⟨⟨hy.nm,hy.kids,hy.ker,hy.cu,hy.pth⟩,hy.con,hy.msk⟩ (plT_eq hs hC)
 rw [← e7 hs] at hT
 refine ⟨v,gv,loopF (α:=Nat) W19_ok 0 _ [0,2,4,5,42,43] (7 - ·) (· ≤ 7) (fun i=>sRd { y with pl:=(plT s y.pl a f i).1 } s (plT s y.pl a f i).2.1 (plT s y.pl a f i).2.2 [(42,plP),(43,iW i)]) 0 (Nat.zero_le _) (rd_6 y s a f) all_nil .refl fun i hi=>?_⟩
 have A:∀ i,∀ q:V,∀ p ∈ [((0:Int) ≤ Int.ofNat (plT s y.pl a f i).2.1∧(plT s y.pl a f i).2.1 ≤ s.length),(s.length ≤ 1000000000),q=q],p:=fun i q=>fm (B0 hs (at' i)) (fm (h9' hs) (fm1 rfl))
 rcases (by omega:i=0 ∨ i=1 ∨ i=2 ∨ i=3 ∨ i=4 ∨ i=5 ∨ i=6 ∨ i=7) with rfl | rfl | rfl | rfl | rfl | rfl | rfl | rfl
 · exact ⟨_,W19_ok,[],_,_,rd_70 { y with pl:=(plT s y.pl a f 0).1 } s _ (plT s y.pl a f 0).2.2,gone (g0 ⟨A 0 _,1,by decide,by decide,.refl⟩)⟩
 · exact ⟨_,W19_ok,[],_,_,rd_71 { y with pl:=(plT s y.pl a f 1).1 } s _ (plT s y.pl a f 1).2.2,gone (g0 ⟨A 1 _,2,by decide,by decide,.refl⟩)⟩
 · exact ⟨_,W19_ok,[],_,_,rd_72 { y with pl:=(plT s y.pl a f 2).1 } s _ (plT s y.pl a f 2).2.2,gone (g0 ⟨A 2 _,3,by decide,by decide,.refl⟩)⟩
 · exact ⟨_,W19_ok,[],_,_,rd_73 { y with pl:=(plT s y.pl a f 3).1 } s _ (plT s y.pl a f 3).2.2,gone (g0 ⟨A 3 _,4,by decide,by decide,.refl⟩)⟩
 · exact ⟨_,W19_ok,[],_,_,rd_74 { y with pl:=(plT s y.pl a f 4).1 } s _ (plT s y.pl a f 4).2.2,gone (g0 ⟨A 4 _,5,by decide,by decide,.refl⟩)⟩
 · exact ⟨_,W19_ok,[],_,_,rd_75 { y with pl:=(plT s y.pl a f 5).1 } s _ (plT s y.pl a f 5).2.2,gone (g0 ⟨A 5 _,6,by decide,by decide,.refl⟩)⟩
 · exact ⟨_,W19_ok,[],_,_,rd_76 { y with pl:=(plT s y.pl a f 6).1 } s _ (plT s y.pl a f 6).2.2,gone (g0 ⟨A 6 _,7,by decide,by decide,.refl⟩)⟩
 · exact ⟨_,W19_ok,[],_,_,rd_77 { y with pl:=(plT s y.pl a f 7).1 } s _ (plT s y.pl a f 7).2.2,gone (g0 ⟨all_nil,rfl,hT⟩)⟩
theorem rd_5' (y:Lay) (a:Nat) (f:Bool) (ha:a ≤ s.length) (hy:okY y) (hC:CC s a f y T5 Y5):TR s (tailN 5 cdRd) (sRd y s a f []):=by
 have h1:=rdVf_at s a f ha
 refine TR.st 1 W19_ok (rd_5 y s a f) (fm (B0 hs ha) (fm (h9' hs) (fm (B0 hs h1) (fm1 (h9' hs))))) ?_
 rw [tailN_seqC]
 exact rd_6' hs _ _ _ (rdVf_at s _ _ h1) ⟨⟨hy.nm,hy.kids,hy.ker,hy.cu,hy.pth⟩,hy.con,hy.msk⟩ (fun l0 k1 k2=>by
  obtain ⟨rfl,k3,rfl⟩:=hC l0 k1 k2
  obtain ⟨e1,k4⟩:=rdVf_eq k3
  rw [e1]
  obtain ⟨e2,k5⟩:=rdVf_eq k4
  simp only
  rw [e2]
  exact ⟨rfl,k5,rfl⟩)
theorem rd_3' (y:Lay) (a:Nat) (f:Bool) (ha:a ≤ s.length) (hy:okY y) (hC:CC s a f y T3 Y3):TR s (tailN 3 cdRd) (sRd y s a f []):=by
 refine TR.st 1 W19_ok (rd_3 y s a f) (fm (B0 hs ha) (fm (h9' hs) (fm1 (by decide)))) ?_
 rw [tailN_seqC]
 refine TR.st 1 W19_ok (rd_4 y s _ _ _) all_nil ?_
 rw [tailN_seqC]
 exact rd_5' hs _ _ _ (rdN_at s a f 1 ha) ⟨⟨hy.nm,hy.kids,hy.ker,hy.cu,hy.pth⟩,hy.con,hy.msk⟩ (fun l0 k1 k2=>by
  obtain ⟨rfl,k3,rfl⟩:=hC l0 k1 k2
  obtain ⟨e1,k4⟩:=rdN_eq k3
  rw [e1]
  refine ⟨rfl,k4,?_⟩
  have hb:∀ a b c:Bool,bitB (Int.ofNat (pB (flg a b c) 1).toNat) 1=a∧bitB (Int.ofNat (pB (flg a b c) 1).toNat) 2=b∧bitB (Int.ofNat (pB (flg a b c) 1).toNat) 4=c:=by decide
  obtain ⟨b1,b2,b3⟩:=hb l0.hid l0.clip l0.hm
  simp only [b1,b2,b3]
  rfl)
omit hs in
theorem rdTx_len (a:Nat) (f:Bool):(rdTx s a f).1.length ≤ s.length:=by
 show (rdT s _ _ _).1.length ≤ _
 unfold rdT
 split
 · exact Nat.zero_le _
 · simp only [List.length_take,List.length_drop]; omega
theorem readD:∃ v,GoodR s v∧DeepTo Tryz.prog 13 [.str s] v:=by
 have key:TR s cdRd (startSt [.str s] .nil 3):=by
  refine TR.st 2 W19_ok (rd_1 s) all_nil ?_
  refine TR.goes (S1:=stG [(0,.str s),(2,.ptr (some (3,0))),(4,.ptr (some (4,0)))] (hL [(3,.cells zLay.cs),(4,.cells (rdC s 0 false))]) 5) (.step (.nlAt 3 [15,19,22,27,28,30] (by kernel_rfl))) ?_
  have key:CC s (rdTx s (rdVf s (rdVf s 0 false).2.1 (rdVf s 0 false).2.2).2.1 (rdVf s (rdVf s 0 false).2.1 (rdVf s 0 false).2.2).2.2).2.1 (rdTx s (rdVf s (rdVf s 0 false).2.1 (rdVf s 0 false).2.2).2.1 (rdVf s (rdVf s 0 false).2.1 (rdVf s 0 false).2.2).2.2).2.2 { zLay with id:=(rdVf s 0 false).1,kd:=(rdVf s (rdVf s 0 false).2.1 (rdVf s 0 false).2.2).1,nm:=(rdTx s (rdVf s (rdVf s 0 false).2.1 (rdVf s 0 false).2.2).2.1 (rdVf s (rdVf s 0 false).2.1 (rdVf s 0 false).2.2).2.2).1 } T3 Y3:=fun l0 k1 k2=>by
   rw [headF_T] at k2
   have k3:s.drop 0=T2 l0:=k2.symm
   obtain ⟨e1,k4⟩:=rdVf_eq k3
   rw [e1]
   obtain ⟨e2,k5⟩:=rdVf_eq k4
   simp only
   rw [e2]
   obtain ⟨e3,k6⟩:=rdTx_eq k1.nm k5
   simp only
   rw [e3]
   exact ⟨rfl,k6,rfl⟩
  have h1:=rdVf_at s 0 false (Nat.zero_le _)
  have h2:=rdVf_at s _ (rdVf s 0 false).2.2 h1
  refine TR.st 1 W19_ok (rd_2 s 0 false) (fm (B0 hs (Nat.zero_le _)) (fm (h9' hs) (fm (B0 hs h1) (fm (h9' hs) (fm (B0 hs h2) (fm1 (h9' hs))))))) ?_
  rw [tailN_seqC]
  generalize (rdVf s 0 false).1=id,(rdVf s (rdVf s 0 false).2.1 (rdVf s 0 false).2.2).1=kd at key ⊢
  generalize (rdVf s (rdVf s 0 false).2.1 (rdVf s 0 false).2.2).2.1=c,(rdVf s (rdVf s 0 false).2.1 (rdVf s 0 false).2.2).2.2=g at h2 key ⊢
  have hn:=rdTx_len (s:=s) c g
  have ha:=rdTx_at s c g h2
  generalize rdTx s c g=T at hn ha key ⊢
  obtain ⟨nm,c,g⟩:=T
  refine TR.goes (S1:=sRd { zLay with id:=id,kd:=kd,nm:=nm } s c g []) (.step (.nlAt 5 [15,19,22,28,30] (by kernel_rfl))) ?_
  exact rd_3' hs _ _ _ ha ⟨⟨by show nm.length ≤ _; simp only at hn; omega,Nat.zero_le _,Nat.zero_le _,Nat.zero_le _,Nat.zero_le _⟩,rfl,rfl⟩ key
 obtain ⟨v,gv,hT⟩:=key
 exact ⟨v,gv,deepN Tryz.func13 hT⟩
end
end Go.Proofs.YtmjggdmekboefaaGreatDoor
namespace Go.Proofs.YtmjggdmekboefaaGreatDoor
open Go Go.Eng
def hU (u:Int):Int:=IntKind.u8.wrap (IntKind.u64.wrap (u.tmod (128:Int)+(128:Int)))
theorem hU_eq {u:Int} (h:0 ≤ u):hU u=hiB u:=by
 obtain ⟨n,rfl⟩:∃ n:Nat,u=n:=⟨u.toNat,(Int.toNat_of_nonneg h).symm⟩
 unfold hU
 rw [hiB_nat,Int.tmod_eq_emod_of_nonneg h,show ((n:Int) % 128+128)=((n % 128+128:Nat):Int) by omega,u64w,u8w]
 congr 1; omega
theorem dU_eq {u:Int} (h:0 ≤ u) (h2:u < 18446744073709551616):IntKind.u64.wrap (u.tdiv (128:Int))=u.fdiv 128:=by
 obtain ⟨n,rfl⟩:∃ n:Nat,u=n:=⟨u.toNat,(Int.toNat_of_nonneg h).symm⟩
 rw [fdiv_nat,Int.tdiv_eq_ediv_of_nonneg h,show ((n:Int) / 128)=((n / 128:Nat):Int) by omega,u64w]
 congr 1; omega
def SU (x:Nat × List Int × Int):St:=match x.2.1 with
 | []=>sU0 x.2.2
 | k :: r=>sU1 (k :: r) x.2.2
theorem tgRu (n:Int):TG Tryz.prog 3 Tryz.f38.ntmps cdRu (startSt [.int .i64 n] .nil 3) (RetG Tryz.prog 3 Tryz.f38 fun u _ _=>u= .str (varB n)):=by
 have hu:=u64_wrap n
 refine isE1 3 (noW_ok _) (ru_1 n) all_nil ?_
 refine loopP (α:=Nat × List Int × Int) 0 _ [3,4] (·.1) (fun x=>(0 ≤ x.2.2∧x.2.2 < 18446744073709551616)∧x.2.2 < 128 ^ (x.1+1)∧x.2.1.length+x.1 ≤ 10∧x.2.1 ++ varL x.1 x.2.2=varL 9 (IntKind.u64.wrap n)) SU (9,[],IntKind.u64.wrap n) ⟨hu,by show IntKind.u64.wrap n < (128:Int) ^ (9+1); rw [p128]; omega,show 0+9 ≤ 10 by decide,rfl⟩ .refl ?_
 rintro ⟨k,ks,u⟩ ⟨h0,hk,hl,hv⟩
 simp only at h0 hk hl hv
 have hstep:128 ≤ u→∃ j,k=j+1∧(0 ≤ u.fdiv 128∧u.fdiv 128 < 18446744073709551616)∧u.fdiv 128 < 128 ^ (j+1)∧(ks ++ [hiB u]) ++ varL j (u.fdiv 128)=varL 9 (IntKind.u64.wrap n):=fun h=>by
  cases k with
  | zero=>simp at hk; omega
  | succ j=>
    have ed:u.fdiv 128=u / 128:=Int.fdiv_eq_ediv_of_nonneg _ (by decide)
    refine ⟨j,rfl,by rw [ed]; omega,?_,?_⟩
    · rw [ed]
      have:(128:Int) ^ (j+1+1)=128 ^ (j+1) * 128:=Int.pow_succ ..
      rw [this] at hk
      exact Int.ediv_lt_of_lt_mul (by decide) hk
    · rw [← hv]
      show _=ks ++ (if 128 ≤ u then _ else _)
      rw [if_pos h]; simp
 have hend:¬ 128 ≤ u→ks ++ [loB u]=varL 9 (IntKind.u64.wrap n):=fun h=>by rw [← hv,varL_low h]
 have eh:=hU_eq h0.1
 have ed:=dU_eq h0.1 h0.2
 cases ks with
 | nil=>
   refine ⟨_,(noW_ok _),[],_,_,ru_2 u,gcons (g1 fun h=>⟨fm1 (by decide),?_⟩) (gone (g1 fun h=>⟨all_nil,rfl,?_⟩))⟩
   · obtain ⟨j,rfl,a1,a2,a3⟩:=hstep (of_decide_eq_true h)
     refine ⟨(j,[hiB u],u.fdiv 128),Nat.lt_succ_self j,⟨a1,a2,by simp at hl ⊢; omega,a3⟩,?_⟩
     rw [ed,show IntKind.u8.wrap (IntKind.u64.wrap (u.tmod (128:Int)+(128:Int)))=hiB u from eh]
     exact .own [(3,.u8)] (by kernel_rfl)
   · refine retE (noW_ok _) (ru_4 u) (gone (g0 ⟨all_nil,_,_,_,rfl,?_⟩))
     unfold varB; rw [← hend (of_decide_eq_false h)]; rfl
 | cons x r=>
   have hpos:0 < (x :: r).length:=by simp
   have hl2:(x :: r).length ≤ 10:=by omega
   have e0:List.take ((x :: r).length * 1) (List.drop 0 (x :: r))=x :: r:=by rw [List.drop_zero,Nat.mul_one,List.take_length]
   have h3:=ru_3 u (x :: r)
   have h5:=ru_5 u (x :: r)
   rw [e0] at h3 h5
   have A:=fm hpos (fm (show 0+(x :: r).length * 1 ≤ (x :: r).length by omega) (fm (show 0 < 1 by decide) (fm (roomy_ok (k:=(x :: r).length+1) (by omega)) (fm1 (show (128:Int) ≠ (0:Int) by decide)))))
   refine ⟨_,(noW_ok _),[],_,_,h3,gcons (g1 fun h=>⟨A,?_⟩) (gone (g1 fun h=>⟨all_nil,rfl,?_⟩))⟩
   · obtain ⟨j,rfl,a1,a2,a3⟩:=hstep (of_decide_eq_true h)
     refine ⟨(j,(x :: r) ++ [hiB u],u.fdiv 128),Nat.lt_succ_self j,⟨a1,a2,by rw [List.length_append]; simp at hl ⊢; omega,a3⟩,?_⟩
     rw [ed,show IntKind.u8.wrap (IntKind.u64.wrap (u.tmod (128:Int)+(128:Int)))=hiB u from eh]
     have:SU (j,(x :: r) ++ [hiB u],u.fdiv 128)=stG [(3,.slc (some (3,0)) ((x :: r).length+1) ((x :: r).length+1) 1),(4,.int .u64 (u.fdiv (128:Int)))] (hL [(3,.own .u8 ((x :: r) ++ [hiB u]))]) 4:=by
      show sU1 ((x :: r) ++ [hiB u]) _=_
      unfold sU1; rw [List.length_append]; rfl
     rw [this]; exact .refl
   · have he:=hend (of_decide_eq_false h)
     have e1:(x :: r ++ [IntKind.u8.wrap u]).length=(x :: r).length+1:=by rw [List.length_append]; rfl
     refine retE (noW_ok _) h5 (gone (g0 ⟨fm hpos (fm (show 0+(x :: r).length * 1 ≤ (x :: r).length by omega) (fm (by decide) (fm (roomy_ok (by omega)) (fm1 (by rw [e1]; omega))))),_,_,_,rfl,?_⟩))
     unfold varB; rw [← he,List.drop_zero,← e1,List.take_length]; rfl
theorem one_Ru:OneW Tryz.prog 38 (pureW specVa):=by
 refine pureT Tryz.func38 fun args A v e=>?_
 unfold specVa at e
 split at e
 case h_2=>cases e
 obtain ⟨rfl,rfl⟩:=sm e
 exact ⟨rfl,rfl,rfl,fun _=>tgRu _⟩
def specRp:List V→Option (List Prop × V)
 | [.int .i64 x,.int .i64 k]=>match k with
   | .ofNat 1=>some ([],.str (put1 x))
   | _=>none
 | _=>none
theorem one_Rp:OneW Tryz.prog 40 (pureW specRp):=by
 refine pureT Tryz.func40 fun args A v e=>?_
 unfold specRp at e
 split at e
 case h_2=>cases e
 split at e
 case h_2=>cases e
 rename_i x k
 obtain ⟨rfl,rfl⟩:=sm e
 refine ⟨rfl,rfl,rfl,fun _=>retE (noW_ok _) (rp_1 x) (gone (g0 ⟨fm (by show 1+0 ≤ _; decide) (fm1 (by decide)),_,_,_,rfl,?_⟩))⟩
 obtain ⟨h1,h2⟩:=u64_wrap x
 unfold put1 pB
 obtain ⟨n,hn⟩:∃ n:Nat,IntKind.u64.wrap x=n:=⟨_,(Int.toNat_of_nonneg h1).symm⟩
 rw [hn,Int.tmod_eq_emod_of_nonneg (Int.natCast_nonneg _),show ((n:Int) % 256)=((n % 256:Nat):Int) by omega,Int.fdiv_one,u8w,u8w,List.append_nil,Nat.mod_mod]
noncomputable abbrev Wo:CtrW:=addW 38 (pureW specVa) (addW 40 (pureW specRp) noW)
theorem Wo_ok:CtrWOk Tryz.prog Wo:=addW_ok one_Ru (addW_ok one_Rp (noW_ok _))
end Go.Proofs.YtmjggdmekboefaaGreatDoor
namespace Go.Proofs.YtmjggdmekboefaaGreatDoor
open Go Go.Eng
noncomputable abbrev cdRb:Code:=bodyOf Tryz.f41
noncomputable abbrev tlRb2:Code:=tailN 2 cdRb
noncomputable abbrev tlRb4:Code:=tailN 4 cdRb
def sRb (f:FL) (s:List UInt8) (r:List (Nat × V)):St:=stG ([(1,.ptr (some (3,0))),(3,.str s)] ++ r) (hL [(3,.cells f.cs)]) 4
theorem rb_1 (f:FL):∃ L,RunIs Tryz.prog (csH Wo []) [] 1000 3 Tryz.f41 [1,3] (headN 2 cdRb) (startSt [f.v] .nil 3) L
  [([],
   [((varB f.k).length+(varB f.r).length ≤ 9223372036854775807),((varB f.k ++ varB f.r).length+(varB (Int.ofNat f.ker.length)).length ≤ 9223372036854775807)],
   .to .normal (sRb f (varB f.k ++ varB f.r ++ varB (Int.ofNat f.ker.length)) []))]
 :=RunIs.of (by kernel_rfl) (by kernel_rfl) (by kernel_rfl)
theorem rb_2 (f:FL) (s:List UInt8):∃ L,RunIs Tryz.prog (csH Wo []) [] 1000 3 Tryz.f41 [1,3,4] (seqL (seqL tlRb2)) (sRb f s []) L
  [([],
   [],
   .to .normal (sRb f s [(4,iW 0)]))]
 :=RunIs.of (by kernel_rfl) (by kernel_rfl) (by kernel_rfl)
theorem rb_3 (f:FL) (s:List UInt8) (i:Nat) (x:Int):∃ L,RunIs Tryz.prog (csH Wo []) [(22,.split),(29,.give (.fptr [.int .i64 x])),(24,.give (iW (i+1)))] 1000 3 Tryz.f41 [1,3,4] (inner (inner (seqR (seqL tlRb2)))) (sRb f s [(4,iW i)]) L
  [([((decide (Int.ofNat i < (Int.ofNat f.ker.length))),true)],
   [((0:Int) ≤ Int.ofNat i∧Int.ofNat i < (Int.ofNat f.ker.length)),((isD f.ker).length=f.ker.length * 1),(V.fptr (cellsAt (isD f.ker) (i * 1) 1)=V.fptr [D.int IntKind.i64 x]),(s.length+(varB x).length ≤ 9223372036854775807),(V.int IntKind.i64 (IntKind.i64.wrap (Int.ofNat i+(1:Int)))=iW (i+1))],
   .to .normal (sRb f (s ++ varB x) [(4,iW (i+1))])),
  ([((decide (Int.ofNat i < (Int.ofNat f.ker.length))),false)],
   [],
   .to (.exit 0) (sRb f s [(4,iW i)]))]
 :=RunIs.of (by kernel_rfl) (by kernel_rfl) (by kernel_rfl)
theorem rb_4 (f:FL) (s:List UInt8) (i:Nat):∃ L,RunIs Tryz.prog (csH Wo []) [] 1000 3 Tryz.f41 [1,3] (headN 1 (seqR tlRb2)) (sRb f s [(4,iW i)]) L
  [([],
   [(s.length+(varB f.dv).length ≤ 9223372036854775807),((s ++ varB f.dv).length+(varB f.vl).length ≤ 9223372036854775807),((s ++ varB f.dv ++ varB f.vl).length+(varB (Int.ofNat f.cu.length)).length ≤ 9223372036854775807)],
   .to .normal (sRb f (s ++ varB f.dv ++ varB f.vl ++ varB (Int.ofNat f.cu.length)) []))]
 :=RunIs.of (by kernel_rfl) (by kernel_rfl) (by kernel_rfl)
theorem rb_5 (f:FL) (s:List UInt8):∃ L,RunIs Tryz.prog (csH Wo []) [] 1000 3 Tryz.f41 [1,3,5] (seqL (seqL tlRb4)) (sRb f s []) L
  [([],
   [],
   .to .normal (sRb f s [(5,iW 0)]))]
 :=RunIs.of (by kernel_rfl) (by kernel_rfl) (by kernel_rfl)
theorem rb_6 (f:FL) (s:List UInt8) (i:Nat) (x:Int):∃ L,RunIs Tryz.prog (csH Wo []) [(51,.split),(58,.give (.fptr [.int .i64 x])),(53,.give (iW (i+1)))] 1000 3 Tryz.f41 [1,3,5] (inner (inner (seqR (seqL tlRb4)))) (sRb f s [(5,iW i)]) L
  [([((decide (Int.ofNat i < (Int.ofNat f.cu.length))),true)],
   [((0:Int) ≤ Int.ofNat i∧Int.ofNat i < (Int.ofNat f.cu.length)),((isD f.cu).length=f.cu.length * 1),(V.fptr (cellsAt (isD f.cu) (i * 1) 1)=V.fptr [D.int IntKind.i64 x]),(s.length+(varB x).length ≤ 9223372036854775807),(V.int IntKind.i64 (IntKind.i64.wrap (Int.ofNat i+(1:Int)))=iW (i+1))],
   .to .normal (sRb f (s ++ varB x) [(5,iW (i+1))])),
  ([((decide (Int.ofNat i < (Int.ofNat f.cu.length))),false)],
   [],
   .to (.exit 2) (sRb f s [(5,iW i)]))]
 :=RunIs.of (by kernel_rfl) (by kernel_rfl) (by kernel_rfl)
theorem rb_7 (f:FL) (s:List UInt8) (i:Nat):∃ L,RunIs Tryz.prog (csH Wo []) [] 1000 3 Tryz.f41 [] (seqR tlRb4) (sRb f s [(5,iW i)]) L
  [([],
   [],
   .ret (.str s) (hL []) 3)]
 :=RunIs.of (by kernel_rfl) (by kernel_rfl) (by kernel_rfl)
end Go.Proofs.YtmjggdmekboefaaGreatDoor
namespace Go.Proofs.YtmjggdmekboefaaGreatDoor
open Go Go.Eng
noncomputable abbrev cdRh:Code:=bodyOf Tryz.f12
noncomputable abbrev tlRh9:Code:=tailN 9 cdRh
noncomputable abbrev tlRhB:Code:=tailN 11 cdRh
def sRh (l:Lay) (s:List UInt8) (r:List (Nat × V)):St:=stG ([(1,.ptr (some (3,0))),(4,.str s)] ++ r) (hL [(3,.cells l.cs)]) 4
def mRh (l:Lay):Tr O:=hL [(3,.cells l.cs)]
theorem rh_1 (l:Lay):RunE (csH Wo []) [] 3 Tryz.f12 [1,3] (headN 5 cdRh) (startSt [l.v] .nil 3) [([],[],.to .normal (stG [(1,.ptr (some (3,0))),(3,iX (flg l.hid l.clip l.hm))] (mRh l) 4))]:=by
 obtain ⟨_,_,_,a,_,_,b,_,_,_,_,_,_,_,_,c,_⟩:=l
 cases a <;> cases b <;> cases c <;> exact RunIs.of (by kernel_rfl) (by kernel_rfl) (by kernel_rfl)
theorem rh_5 (l:Lay) (k:Int):∃ L,RunIs Tryz.prog (csH Wo []) [] 1000 3 Tryz.f12 [1,4] (headN 1 (tailN 5 cdRh)) (stG [(1,.ptr (some (3,0))),(3,iX k)] (mRh l) 4) L
  [([],
   [((varB l.id).length+(varB l.kd).length ≤ 9223372036854775807),((varB (Int.ofNat l.nm.length)).length+l.nm.length ≤ 9223372036854775807),((varB l.id ++ varB l.kd).length+(varB (Int.ofNat l.nm.length) ++ l.nm).length ≤ 9223372036854775807),((varB l.id ++ varB l.kd ++ (varB (Int.ofNat l.nm.length) ++ l.nm)).length+(put1 k).length ≤ 9223372036854775807),((varB l.id ++ varB l.kd ++ (varB (Int.ofNat l.nm.length) ++ l.nm) ++ put1 k).length+(varB l.op).length ≤ 9223372036854775807),((varB l.id ++ varB l.kd ++ (varB (Int.ofNat l.nm.length) ++ l.nm) ++ put1 k ++ varB l.op).length+(varB l.md).length ≤ 9223372036854775807)],
   .to .normal (sRh l (varB l.id ++ varB l.kd ++ (varB (Int.ofNat l.nm.length) ++ l.nm) ++ put1 k ++ varB l.op ++ varB l.md) []))]
 :=RunIs.of (by kernel_rfl) (by kernel_rfl) (by kernel_rfl)
theorem rh_6 (l:Lay) (s:List UInt8):∃ L,RunIs Tryz.prog (csH Wo []) [] 1000 3 Tryz.f12 [1,4] (headN 2 (tailN 6 cdRh)) (sRh l s []) L
  [([],
   [((0:Int) ≤ (0:Int)∧(0:Int) < (7:Int)),(s.length+(varB l.pl.a).length ≤ 9223372036854775807),((0:Int) ≤ (1:Int)∧(1:Int) < (7:Int)),((s ++ varB l.pl.a).length+(varB l.pl.b).length ≤ 9223372036854775807),((0:Int) ≤ (2:Int)∧(2:Int) < (7:Int)),((s ++ varB l.pl.a ++ varB l.pl.b).length+(varB l.pl.c).length ≤ 9223372036854775807),((0:Int) ≤ (3:Int)∧(3:Int) < (7:Int)),((s ++ varB l.pl.a ++ varB l.pl.b ++ varB l.pl.c).length+(varB l.pl.d).length ≤ 9223372036854775807),((0:Int) ≤ (4:Int)∧(4:Int) < (7:Int)),((s ++ varB l.pl.a ++ varB l.pl.b ++ varB l.pl.c ++ varB l.pl.d).length+(varB l.pl.e).length ≤ 9223372036854775807),((0:Int) ≤ (5:Int)∧(5:Int) < (7:Int)),((s ++ varB l.pl.a ++ varB l.pl.b ++ varB l.pl.c ++ varB l.pl.d ++ varB l.pl.e).length+(varB l.pl.f).length ≤ 9223372036854775807),((0:Int) ≤ (6:Int)∧(6:Int) < (7:Int)),((s ++ varB l.pl.a ++ varB l.pl.b ++ varB l.pl.c ++ varB l.pl.d ++ varB l.pl.e ++ varB l.pl.f).length+(varB l.pl.n).length ≤ 9223372036854775807)],
   .to .normal (sRh l (s ++ varB l.pl.a ++ varB l.pl.b ++ varB l.pl.c ++ varB l.pl.d ++ varB l.pl.e ++ varB l.pl.f ++ varB l.pl.n) []))]
 :=RunIs.of (by kernel_rfl) (by kernel_rfl) (by kernel_rfl)
theorem rh_8 (l:Lay) (s:List UInt8):∃ L,RunIs Tryz.prog (csH Wo []) [] 1000 3 Tryz.f12 [1,4] (headN 1 (tailN 8 cdRh)) (sRh l s []) L
  [([],
   [(s.length+(varB l.sp).length ≤ 9223372036854775807),((s ++ varB l.sp).length+(varB (Int.ofNat l.kids.length)).length ≤ 9223372036854775807)],
   .to .normal (sRh l (s ++ varB l.sp ++ varB (Int.ofNat l.kids.length)) []))]
 :=RunIs.of (by kernel_rfl) (by kernel_rfl) (by kernel_rfl)
theorem rh_9 (l:Lay) (s:List UInt8):∃ L,RunIs Tryz.prog (csH Wo []) [] 1000 3 Tryz.f12 [1,4,7] (seqL (seqL tlRh9)) (sRh l s []) L
  [([],
   [],
   .to .normal (sRh l s [(7,iW 0)]))]
 :=RunIs.of (by kernel_rfl) (by kernel_rfl) (by kernel_rfl)
theorem rh_a (l:Lay) (s:List UInt8) (i:Nat) (x:Int):∃ L,RunIs Tryz.prog (csH Wo []) [(89,.split),(96,.give (.fptr [.int .i64 x])),(91,.give (iW (i+1)))] 1000 3 Tryz.f12 [1,4,7] (inner (inner (seqR (seqL tlRh9)))) (sRh l s [(7,iW i)]) L
  [([((decide (Int.ofNat i < (Int.ofNat l.kids.length))),true)],
   [((0:Int) ≤ Int.ofNat i∧Int.ofNat i < (Int.ofNat l.kids.length)),((isD l.kids).length=l.kids.length * 1),(V.fptr (cellsAt (isD l.kids) (i * 1) 1)=V.fptr [D.int IntKind.i64 x]),(s.length+(varB x).length ≤ 9223372036854775807),(V.int IntKind.i64 (IntKind.i64.wrap (Int.ofNat i+(1:Int)))=iW (i+1))],
   .to .normal (sRh l (s ++ varB x) [(7,iW (i+1))])),
  ([((decide (Int.ofNat i < (Int.ofNat l.kids.length))),false)],
   [],
   .to (.exit 2) (sRh l s [(7,iW i)]))]
 :=RunIs.of (by kernel_rfl) (by kernel_rfl) (by kernel_rfl)
theorem rh_b (l:Lay) (s fb:List UInt8) (i:Nat):∃ L,RunIs Tryz.prog (csH (pinN 41 [l.f.v] (.str fb) Wo) []) [] 1000 3 Tryz.f12 [1,4] (headN 1 (seqR tlRh9)) (sRh l s [(7,iW i)]) L
  [([],
   [(s.length+(varB l.of).length ≤ 9223372036854775807),(pinA [l.f.v]),((s ++ varB l.of).length+fb.length ≤ 9223372036854775807),((s ++ varB l.of ++ fb).length+[UInt8.ofNat l.fi.r.toNat,UInt8.ofNat l.fi.g.toNat,UInt8.ofNat l.fi.b.toNat,UInt8.ofNat l.fi.a.toNat].length ≤ 9223372036854775807),((s ++ varB l.of ++ fb ++ [UInt8.ofNat l.fi.r.toNat,UInt8.ofNat l.fi.g.toNat,UInt8.ofNat l.fi.b.toNat,UInt8.ofNat l.fi.a.toNat]).length+(varB (Int.ofNat l.pth.length)).length ≤ 9223372036854775807)],
   .to .normal (sRh l (s ++ varB l.of ++ fb ++ fiB l.fi ++ varB (Int.ofNat l.pth.length)) []))]
 :=RunIs.of (by kernel_rfl) (by kernel_rfl) (by kernel_rfl)
theorem rh_c (l:Lay) (s:List UInt8):∃ L,RunIs Tryz.prog (csH Wo []) [] 1000 3 Tryz.f12 [1,4,8] (seqL (seqL tlRhB)) (sRh l s []) L
  [([],
   [],
   .to .normal (sRh l s [(8,iW 0)]))]
 :=RunIs.of (by kernel_rfl) (by kernel_rfl) (by kernel_rfl)
abbrev rh_dA1 (l:Lay) (i:Nat) (x y:Int):Prop:=V.fptr (cellsAt (ptD l.pth) (i * 2) 2)=V.fptr [D.int IntKind.i64 x,D.int IntKind.i64 y]
theorem rh_d (l:Lay) (s:List UInt8) (i:Nat) (x y:Int):∃ L,RunIs Tryz.prog (csH Wo []) [(133,.split),(140,.give (.fptr [.int .i64 x,.int .i64 y])),(148,.give (.fptr [.int .i64 x,.int .i64 y])),(135,.give (iW (i+1)))] 1000 3 Tryz.f12 [1,4,8] (inner (inner (seqR (seqL tlRhB)))) (sRh l s [(8,iW i)]) L
  [([((decide (Int.ofNat i < (Int.ofNat l.pth.length))),true)],
   [((0:Int) ≤ Int.ofNat i∧Int.ofNat i < (Int.ofNat l.pth.length)),((ptD l.pth).length=l.pth.length * 2),rh_dA1 l i x y,(s.length+(varB x).length ≤ 9223372036854775807),((0:Int) ≤ Int.ofNat i∧Int.ofNat i < (Int.ofNat l.pth.length)),((ptD l.pth).length=l.pth.length * 2),rh_dA1 l i x y,((s ++ varB x).length+(varB y).length ≤ 9223372036854775807),(V.int IntKind.i64 (IntKind.i64.wrap (Int.ofNat i+(1:Int)))=iW (i+1))],
   .to .normal (sRh l (s ++ varB x ++ varB y) [(8,iW (i+1))])),
  ([((decide (Int.ofNat i < (Int.ofNat l.pth.length))),false)],
   [],
   .to (.exit 4) (sRh l s [(8,iW i)]))]
 :=RunIs.of (by kernel_rfl) (by kernel_rfl) (by kernel_rfl)
theorem rh_e (l:Lay) (s:List UInt8) (i:Nat):∃ L,RunIs Tryz.prog (csH Wo []) [] 1000 3 Tryz.f12 [] (seqR tlRhB) (sRh l s [(8,iW i)]) L
  [([],
   [],
   .ret (.str s) (hL []) 3)]
 :=RunIs.of (by kernel_rfl) (by kernel_rfl) (by kernel_rfl)
end Go.Proofs.YtmjggdmekboefaaGreatDoor
namespace Go.Proofs.YtmjggdmekboefaaGreatDoor
open Go Go.Eng
theorem rbD (f:FL) (h1:f.ker.length ≤ 2000000) (h2:f.cu.length ≤ 2000000):DeepTo Tryz.prog 41 [f.v] (.str (bytesF f)):=by
 refine deepT Tryz.func41 ?_
 have b:=fun n=>(varB_len n).2
 have b1:=b f.k
 have b2:=b f.r
 have b3:=b (Int.ofNat f.ker.length)
 have b4:=b f.dv
 have b5:=b f.vl
 have b6:=b (Int.ofNat f.cu.length)
 refine isE1 2 Wo_ok (rb_1 f) ?_ ?_
 · repeat' (first | exact all_nil | refine fm ?_ ?_)
   all_goals (first | omega | (simp only [List.length_append]; omega))
 have l0:(varB f.k ++ varB f.r ++ varB (Int.ofNat f.ker.length)).length ≤ 30:=by simp only [List.length_append]; omega
 have e0:∀ a b c,varB a ++ varB b ++ varB c=numsB [a,b,c]:=fun a b c=>by
  show _=varB a ++ (varB b ++ (varB c ++ []))
  rw [List.append_nil,List.append_assoc]
 rw [e0] at l0 ⊢
 unfold bytesF
 generalize numsB [f.k,f.r,Int.ofNat f.ker.length]=s0 at l0 ⊢
 refine loopF Wo_ok 0 _ [1,3,4] (f.ker.length - ·) (· ≤ f.ker.length) (fun i=>sRb f (s0 ++ numsB (f.ker.take i)) [(4,iW i)]) 0 (Nat.zero_le _) (rb_2 f s0) all_nil (by
  show Goes _ _ _ _ (sRb f (s0 ++ []) _)
  rw [List.append_nil]; exact .refl) fun i hi=>?_
 refine ⟨_,Wo_ok,[],_,_,rb_3 f _ i (f.ker.getD i 0),gcons (g1 fun h=>?_) (gone (g1 fun h=>⟨all_nil,rfl,?_⟩))⟩
 · have hlt:=dlt h
   obtain ⟨v,hv⟩:∃ v,f.ker[i]? =some v:=⟨_,List.getElem?_eq_getElem hlt⟩
   have ev:f.ker.getD i 0=v:=by rw [List.getD_eq_getElem?_getD,hv]; rfl
   rw [ev]
   have q1:=numsB_len (f.ker.take i)
   have q2:=b v
   rw [List.length_take] at q1
   refine ⟨fm (ibd hlt) (fm (isD_len _) (fm (isD_at hv) (fm (by simp only [List.length_append]; omega) (fm1 (vsuc (by omega)))))),i+1,lsub hlt,hlt,?_⟩
   rw [List.append_assoc,← numsB_step hv]; exact .refl
 obtain rfl:i=f.ker.length:=by have:=dge h; omega
 rw [List.take_length]
 have q1:=numsB_len f.ker
 have l1:(s0 ++ numsB f.ker).length ≤ 30+10 * f.ker.length:=by rw [List.length_append]; omega
 generalize s0 ++ numsB f.ker=s1 at l1 ⊢
 refine isE1 1 Wo_ok (rb_4 f s1 f.ker.length) ?_ ?_
 · repeat' (first | exact all_nil | refine fm ?_ ?_)
   all_goals (first | omega | (simp only [List.length_append]; omega))
 have e1:∀ a b c,s1 ++ varB a ++ varB b ++ varB c=s1 ++ numsB [a,b,c]:=fun a b c=>by
  rw [← e0]; simp only [List.append_assoc]
 have l2:(s1 ++ numsB [f.dv,f.vl,Int.ofNat f.cu.length]).length ≤ 60+10 * f.ker.length:=by rw [← e1]; simp only [List.length_append]; omega
 rw [e1]
 generalize s1 ++ numsB [f.dv,f.vl,Int.ofNat f.cu.length]=s2 at l2 ⊢
 refine loopF (c:=tlRb4) Wo_ok 2 _ [1,3,5] (f.cu.length - ·) (· ≤ f.cu.length) (fun i=>sRb f (s2 ++ numsB (f.cu.take i)) [(5,iW i)]) 0 (Nat.zero_le _) (rb_5 f s2) all_nil (by
  show Goes _ _ _ _ (sRb f (s2 ++ []) _)
  rw [List.append_nil]; exact .refl) fun i hi=>?_
 refine ⟨_,Wo_ok,[],_,_,rb_6 f _ i (f.cu.getD i 0),gcons (g1 fun h=>?_) (gone (g1 fun h=>⟨all_nil,rfl,?_⟩))⟩
 · have hlt:=dlt h
   obtain ⟨v,hv⟩:∃ v,f.cu[i]? =some v:=⟨_,List.getElem?_eq_getElem hlt⟩
   have ev:f.cu.getD i 0=v:=by rw [List.getD_eq_getElem?_getD,hv]; rfl
   rw [ev]
   have q1:=numsB_len (f.cu.take i)
   have q2:=b v
   rw [List.length_take] at q1
   refine ⟨fm (ibd hlt) (fm (isD_len _) (fm (isD_at hv) (fm (by simp only [List.length_append]; omega) (fm1 (vsuc (by omega)))))),i+1,lsub hlt,hlt,?_⟩
   rw [List.append_assoc,← numsB_step hv]; exact .refl
 obtain rfl:i=f.cu.length:=by have:=dge h; omega
 rw [List.take_length]
 exact retE Wo_ok (rb_7 f _ _) (gone (g0 ⟨all_nil,_,_,_,rfl,rfl⟩))
theorem rhD (l:Lay) (h:okL l):DeepTo Tryz.prog 12 [l.v] (.str (headF l)):=by
 refine deepT Tryz.func12 ?_
 have b:=fun n=>(varB_len n).2
 obtain ⟨d1,d2,d3,d4,d5⟩:=h
 have hF:=rbD l.f d3 d4
 have a3:=bytesF_len l.f
 have p2:(fiB l.fi).length=4:=rfl
 refine isE1 5 Wo_ok (rh_1 l) all_nil ?_
 have p1:(put1 (flg l.hid l.clip l.hm)).length=1:=rfl
 unfold headF
 generalize flg l.hid l.clip l.hm=k at p1 ⊢
 refine isE1 1 Wo_ok (rh_5 l k) ?_ ?_
 · have b1:=b l.id
   have b2:=b l.kd
   have b3:=b (Int.ofNat l.nm.length)
   have b4:=b l.op
   have b5:=b l.md
   repeat' (first | exact all_nil | refine fm ?_ ?_)
   all_goals (first | omega | (simp only [List.length_append]; omega))
 rw [tailN_seqC]
 have l1:(varB l.id ++ varB l.kd ++ (varB (Int.ofNat l.nm.length) ++ l.nm) ++ put1 k ++ varB l.op ++ varB l.md).length ≤ 60+l.nm.length:=by
  have b1:=b l.id
  have b2:=b l.kd
  have b3:=b (Int.ofNat l.nm.length)
  have b4:=b l.op
  have b5:=b l.md
  simp only [List.length_append]; omega
 rw [show varB l.id ++ varB l.kd ++ (textB l.nm ++ put1 k) ++ varB l.op ++ varB l.md=varB l.id ++ varB l.kd ++ (varB (Int.ofNat l.nm.length) ++ l.nm) ++ put1 k ++ varB l.op ++ varB l.md by unfold textB; simp only [List.append_assoc]]
 generalize varB l.id ++ varB l.kd ++ (varB (Int.ofNat l.nm.length) ++ l.nm) ++ put1 k ++ varB l.op ++ varB l.md=s1 at l1 ⊢
 have l2:(s1 ++ plcB l.pl).length ≤ 140+l.nm.length:=by
  have b1:=b l.pl.a
  have b2:=b l.pl.b
  have b3:=b l.pl.c
  have b4:=b l.pl.d
  have b5:=b l.pl.e
  have b6:=b l.pl.f
  have b7:=b l.pl.n
  unfold plcB
  simp only [List.length_append]; omega
 refine isE1 2 Wo_ok (rh_6 l s1) ?_ ?_
 · have b1:=b l.pl.a
   have b2:=b l.pl.b
   have b3:=b l.pl.c
   have b4:=b l.pl.d
   have b5:=b l.pl.e
   have b6:=b l.pl.f
   have b7:=b l.pl.n
   repeat' (first | exact all_nil | refine fm ?_ ?_)
   all_goals first | decide | omega | (simp only [List.length_append]; omega)
 rw [tailN_seqC,show s1 ++ varB l.pl.a ++ varB l.pl.b ++ varB l.pl.c ++ varB l.pl.d ++ varB l.pl.e ++ varB l.pl.f ++ varB l.pl.n=s1 ++ plcB l.pl by unfold plcB; simp only [List.append_assoc]]
 generalize s1 ++ plcB l.pl=s2 at l2 ⊢
 have l3:(s2 ++ varB l.sp ++ varB (Int.ofNat l.kids.length)).length ≤ 160+l.nm.length:=by
  have b1:=b l.sp
  have b2:=b (Int.ofNat l.kids.length)
  simp only [List.length_append]; omega
 refine isE1 1 Wo_ok (rh_8 l s2) ?_ ?_
 · have b1:=b l.sp
   have b2:=b (Int.ofNat l.kids.length)
   repeat' (first | exact all_nil | refine fm ?_ ?_)
   all_goals (first | omega | (simp only [List.length_append]; omega))
 rw [tailN_seqC]
 generalize s2 ++ varB l.sp ++ varB (Int.ofNat l.kids.length)=s3 at l3 ⊢
 refine loopF (c:=tlRh9) Wo_ok 2 _ [1,4,7] (l.kids.length - ·) (· ≤ l.kids.length) (fun i=>sRh l (s3 ++ numsB (l.kids.take i)) [(7,iW i)]) 0 (Nat.zero_le _) (rh_9 l s3) all_nil (by
  show Goes _ _ _ _ (sRh l (s3 ++ []) _)
  rw [List.append_nil]; exact .refl) fun i hi=>?_
 refine ⟨_,Wo_ok,[],_,_,rh_a l _ i (l.kids.getD i 0),gcons (g1 fun h=>?_) (gone (g1 fun h=>⟨all_nil,rfl,?_⟩))⟩
 · have hlt:=dlt h
   obtain ⟨v,hv⟩:∃ v,l.kids[i]? =some v:=⟨_,List.getElem?_eq_getElem hlt⟩
   have ev:l.kids.getD i 0=v:=by rw [List.getD_eq_getElem?_getD,hv]; rfl
   rw [ev]
   have q1:=numsB_len (l.kids.take i)
   have q2:=b v
   rw [List.length_take] at q1
   refine ⟨fm (ibd hlt) (fm (isD_len _) (fm (isD_at hv) (fm (by simp only [List.length_append]; omega) (fm1 (vsuc (by omega)))))),i+1,lsub hlt,hlt,?_⟩
   rw [List.append_assoc,← numsB_step hv]; exact .refl
 obtain rfl:i=l.kids.length:=by have:=dge h; omega
 rw [List.take_length]
 have q1:=numsB_len l.kids
 have l4:(s3 ++ numsB l.kids).length ≤ 160+l.nm.length+10 * l.kids.length:=by rw [List.length_append]; omega
 generalize s3 ++ numsB l.kids=s4 at l4 ⊢
 have b1:=b l.of
 have b2:=b (Int.ofNat l.pth.length)
 refine isE1 1 (pinK hF Wo_ok) (rh_b l s4 _ l.kids.length) ?_ ?_
 · repeat' (first | exact all_nil | refine fm ?_ ?_)
   all_goals first | rfl | (simp only [List.length_append,List.length_cons,List.length_nil]; omega) | omega
 have l5:(s4 ++ varB l.of ++ bytesF l.f ++ fiB l.fi ++ varB (Int.ofNat l.pth.length)).length ≤ 260+l.nm.length+10 * l.kids.length+10 * l.f.ker.length+10 * l.f.cu.length:=by
  simp only [List.length_append]; omega
 generalize s4 ++ varB l.of ++ bytesF l.f ++ fiB l.fi ++ varB (Int.ofNat l.pth.length)=s5 at l5 ⊢
 refine loopF (c:=tlRhB) Wo_ok 4 _ [1,4,8] (l.pth.length - ·) (· ≤ l.pth.length) (fun i=>sRh l (s5 ++ ptsB (l.pth.take i)) [(8,iW i)]) 0 (Nat.zero_le _) (rh_c l s5) all_nil (by
  show Goes _ _ _ _ (sRh l (s5 ++ []) _)
  rw [List.append_nil]; exact .refl) fun i hi=>?_
 refine ⟨_,Wo_ok,[],_,_,rh_d l _ i (l.pth.getD i (0,0)).1 (l.pth.getD i (0,0)).2,gcons (g1 fun h=>?_) (gone (g1 fun h=>⟨all_nil,rfl,?_⟩))⟩
 · have hlt:=dlt h
   obtain ⟨v,hv⟩:∃ v,l.pth[i]? =some v:=⟨_,List.getElem?_eq_getElem hlt⟩
   have ev:l.pth.getD i (0,0)=v:=by rw [List.getD_eq_getElem?_getD,hv]; rfl
   rw [ev]
   have q1:=ptsB_len (l.pth.take i)
   have q2:=b v.1
   have q3:=b v.2
   rw [List.length_take] at q1
   have hs:(s5 ++ ptsB (l.pth.take i)).length ≤ 1000000000:=by rw [List.length_append]; omega
   refine ⟨fm (ibd hlt) (fm (ptD_len _) (fm (ptD_at hv) (fm (by omega) (fm (ibd hlt) (fm (ptD_len _) (fm (ptD_at hv) (fm (by rw [List.length_append]; omega) (fm1 (vsuc (by omega)))))))))),i+1,lsub hlt,hlt,?_⟩
   rw [List.append_assoc,List.append_assoc,← ptsB_step hv]; exact .refl
 obtain rfl:i=l.pth.length:=by have:=dge h; omega
 rw [List.take_length]
 exact retE Wo_ok (rh_e l _ _) (gone (g0 ⟨all_nil,_,_,_,rfl,rfl⟩))
end Go.Proofs.YtmjggdmekboefaaGreatDoor
namespace Go.Proofs.YtmjggdmekboefaaGreatDoor
open Go Go.Eng
noncomputable abbrev cdRt:Code:=bodyOf Tryz.f101
noncomputable abbrev tlRt:Code:=tailN 2 cdRt
def sTy (ks:List Int) (i:Nat):St:=stG [(1,.ptr (some (3,0))),(3,.slc (some (4,0)) 0 0 1),(4,iW i)] (hL [(3,.own .u8 ks),(4,.cells [])]) 5
def sTx (ks js:List Int) (c i:Nat):St:=stG [(1,.ptr (some (3,0))),(3,.slc (some (4,0)) js.length c 1),(4,iW i)] (hL [(3,.own .u8 ks),(4,.own .u8 js)]) 5
theorem rt_1 (p:Nat→Int):∃ L,RunIs Tryz.prog (csH noW []) [] 1000 3 Tryz.f101 [1,3] (headN 2 cdRt) (startSt [tlV p] .nil 3) L
  [([],
   [],
   .to .normal (stG [(1,.ptr (some (3,0))),(3,.slc (some (4,0)) 0 0 1)] (hL [(3,.cells (D.toVs (tcs p))),(4,.cells [])]) 5))]
 :=RunIs.of (by kernel_rfl) (by kernel_rfl) (by kernel_rfl)
theorem rt_2 (ks:List Int):∃ L,RunIs Tryz.prog (csH noW []) [] 1000 3 Tryz.f101 [1,3,4] (seqL (seqL tlRt)) (stG [(1,.ptr (some (3,0))),(3,.slc (some (4,0)) 0 0 1)] (hL [(3,.own .u8 ks),(4,.cells [])]) 5) L
  [([],
   [],
   .to .normal (sTy ks 0))]
 :=RunIs.of (by kernel_rfl) (by kernel_rfl) (by kernel_rfl)
theorem rt_3 (ks:List Int) (i:Nat) (r g b a:Int):∃ L,RunIs Tryz.prog (csH noW []) [(7,.split),(14,.give (.int .u8 r)),(18,.give (.int .u8 g)),(22,.give (.int .u8 b)),(26,.give (.int .u8 a)),(9,.give (iW (i+1)))] 1000 3 Tryz.f101 [1,3,4] (inner (inner (seqR (seqL tlRt)))) (sTy ks i) L
  [([((decide (Int.ofNat i < (64:Int))),true)],
   [((0:Int) ≤ Int.ofNat i∧Int.ofNat i < (64:Int)),(0+i * 4+0 < ks.length),(V.int IntKind.u8 (ks.getD (0+i * 4+0) (0:Int))=V.int IntKind.u8 r),((0:Int) ≤ Int.ofNat i∧Int.ofNat i < (64:Int)),(0+i * 4+1 < ks.length),(V.int IntKind.u8 (ks.getD (0+i * 4+1) (0:Int))=V.int IntKind.u8 g),((0:Int) ≤ Int.ofNat i∧Int.ofNat i < (64:Int)),(0+i * 4+2 < ks.length),(V.int IntKind.u8 (ks.getD (0+i * 4+2) (0:Int))=V.int IntKind.u8 b),((0:Int) ≤ Int.ofNat i∧Int.ofNat i < (64:Int)),(0+i * 4+3 < ks.length),(V.int IntKind.u8 (ks.getD (0+i * 4+3) (0:Int))=V.int IntKind.u8 a),(V.int IntKind.i64 (IntKind.i64.wrap (Int.ofNat i+(1:Int)))=iW (i+1))],
   .to .normal (stG [(1,.ptr (some (3,0))),(3,.slc (some (4,0)) 4 4 1),(4,.int .i64 (Int.ofNat (i+1)))] (hL [(3,.own .u8 ks),(4,.cells [.int .u8 r,.int .u8 g,.int .u8 b,.int .u8 a])]) 5)),
  ([((decide (Int.ofNat i < (64:Int))),false)],
   [],
   .to (.exit 0) (stG [(1,.ptr (some (3,0))),(3,.slc (some (4,0)) 0 0 1),(4,.int .i64 (Int.ofNat i))] (hL [(3,.own .u8 ks),(4,.cells [])]) 5))]
 :=RunIs.of (by kernel_rfl) (by kernel_rfl) (by kernel_rfl)
theorem rt_4 (ks js:List Int) (c i:Nat) (r g b a:Int):∃ L,RunIs Tryz.prog (csH noW []) [(7,.split),(14,.give (.int .u8 r)),(18,.give (.int .u8 g)),(22,.give (.int .u8 b)),(26,.give (.int .u8 a)),(9,.give (iW (i+1)))] 1000 3 Tryz.f101 [1,3,4] (inner (inner (seqR (seqL tlRt)))) (sTx ks js c i) L
  [([((decide (Int.ofNat i < (64:Int))),true)],
   [((0:Int) ≤ Int.ofNat i∧Int.ofNat i < (64:Int)),(0+i * 4+0 < ks.length),(V.int IntKind.u8 (ks.getD (0+i * 4+0) (0:Int))=V.int IntKind.u8 r),((0:Int) ≤ Int.ofNat i∧Int.ofNat i < (64:Int)),(0+i * 4+1 < ks.length),(V.int IntKind.u8 (ks.getD (0+i * 4+1) (0:Int))=V.int IntKind.u8 g),((0:Int) ≤ Int.ofNat i∧Int.ofNat i < (64:Int)),(0+i * 4+2 < ks.length),(V.int IntKind.u8 (ks.getD (0+i * 4+2) (0:Int))=V.int IntKind.u8 b),((0:Int) ≤ Int.ofNat i∧Int.ofNat i < (64:Int)),(0+i * 4+3 < ks.length),(V.int IntKind.u8 (ks.getD (0+i * 4+3) (0:Int))=V.int IntKind.u8 a),(0 < js.length),(0+js.length * 1 ≤ js.length),(0 < 4),(roomy (js.length+4) 1 1=true),(V.int IntKind.i64 (IntKind.i64.wrap (Int.ofNat i+(1:Int)))=iW (i+1))],
   .to .normal (stG [(1,.ptr (some (3,0))),(3,.slc (some (4,0)) (js.length+4) (js.length+4) 1),(4,.int .i64 (Int.ofNat (i+1)))] (hL [(3,.own .u8 ks),(4,.own .u8 (List.take (js.length * 1) (List.drop 0 js) ++ [r,g,b,a]))]) 5)),
  ([((decide (Int.ofNat i < (64:Int))),false)],
   [],
   .to (.exit 0) (stG [(1,.ptr (some (3,0))),(3,.slc (some (4,0)) (js.length) c 1),(4,.int .i64 (Int.ofNat i))] (hL [(3,.own .u8 ks),(4,.own .u8 js)]) 5))]
 :=RunIs.of (by kernel_rfl) (by kernel_rfl) (by kernel_rfl)
theorem rt_5 (ks js:List Int) (c i:Nat):∃ L,RunIs Tryz.prog (csH noW []) [] 1000 3 Tryz.f101 [] (seqR tlRt) (sTx ks js c i) L
  [([],
   [(0+js.length ≤ js.length)],
   .ret (.str (strI (List.take js.length (List.drop 0 js)))) (hL []) 3)]
 :=RunIs.of (by kernel_rfl) (by kernel_rfl) (by kernel_rfl)
theorem rt_6 (p:Nat→Int) (s:List UInt8):∃ L,RunIs Tryz.prog (csH (pinN 101 [tlV p] (.str s) (addW 67 (pureW Sha.specVo) noW)) []) [] 1000 3 Tryz.f71 [] (bodyOf Tryz.f71) (startSt [tlV p] .nil 3) L
  [([],
   [(pinA [tlV p]),(s.length ≤ 1000000000)],
   .ret (.str (Sha.sha s)) (hL []) 3)]
 :=RunIs.of (by kernel_rfl) (by kernel_rfl) (by kernel_rfl)
noncomputable abbrev cdRk:Code:=bodyOf Tryz.f50
noncomputable abbrev tlRk:Code:=tailN 3 cdRk
noncomputable abbrev Wbg:CtrW:=addW 70 (pureW Sha.specBg) noW
def mRk (n:Nat) (cs:List D) (o:O):Tr O:=hL [(3,.cells [.lst false n cs]),(4,o)]
def sRk0 (n:Nat) (cs:List D) (i:Nat):St:=stG [(1,.ptr (some (3,0))),(3,.slc (some (4,0)) 0 0 1),(4,iW i)] (mRk n cs (.cells [])) 5
def sRk1 (n:Nat) (cs:List D) (i m:Nat) (ds:List D):St:=stG [(1,.ptr (some (3,0))),(3,.slc (some (4,0)) m m 1),(4,iW i)] (mRk n cs (.deep ds)) 5
theorem rk_1 (n k:Nat) (cs es:List D):∃ L,RunIs Tryz.prog (csH (pinN 69 [.agg [.lst false n cs]] (.agg [.lst false k es]) noW) []) [] 1000 3 Tryz.f50 [1,3] (headN 3 cdRk) (startSt [.agg [.lst false n cs]] .nil 3) L
  [([],
   [(pinA [.agg [.lst false n cs]])],
   .to .normal (stG [(1,.ptr (some (3,0))),(3,.slc (some (4,0)) 0 0 1)] (hL [(3,.cells [.lst false k es]),(4,.cells [])]) 5))]
 :=RunIs.of (by kernel_rfl) (by kernel_rfl) (by kernel_rfl)
theorem rk_2 (n:Nat) (cs:List D):∃ L,RunIs Tryz.prog (csH noW []) [] 1000 3 Tryz.f50 [1,3,4] (seqL (seqL tlRk)) (stG [(1,.ptr (some (3,0))),(3,.slc (some (4,0)) 0 0 1)] (mRk n cs (.cells [])) 5) L
  [([],
   [],
   .to .normal (sRk0 n cs 0))]
 :=RunIs.of (by kernel_rfl) (by kernel_rfl) (by kernel_rfl)
theorem rk_3 (n:Nat) (cs:List D) (i:Nat) (t:Tl) (k:List UInt8):RunE (csH (pinN 71 [tlV t.p] (.str k) Wbg) []) [(13,.split),(19,.give (.fptr t.d)),(37,.give (.fptr t.d)),(15,.give (iW (i+1)))] 3 Tryz.f50 [1,3,4] (inner (inner (seqR (seqL tlRk)))) (sRk0 n cs i)
  [([(decide (Int.ofNat i < Int.ofNat n),true)],[(0:Int) ≤ Int.ofNat i∧Int.ofNat i < Int.ofNat n,cs.length=n * 258,V.fptr (cellsAt cs (i * 258) 258)=V.fptr t.d,(Sha.rawB4 (IntKind.u64.wrap (IntKind.i64.wrap (t.x+(65536:Int))))).length+(Sha.rawB4 (IntKind.u64.wrap (IntKind.i64.wrap (t.y+(65536:Int))))).length ≤ 9223372036854775807,(0:Int) ≤ Int.ofNat i∧Int.ofNat i < Int.ofNat n,cs.length=n * 258,V.fptr (cellsAt cs (i * 258) 258)=V.fptr t.d,pinA [tlV t.p],V.int .i64 (IntKind.i64.wrap (Int.ofNat i+(1:Int)))=iW (i+1)],.to .normal (stG [(1,.ptr (some (3,0))),(3,.slc (some (4,0)) 2 2 1),(4,iW (i+1))] (mRk n cs (.cells [.str (Sha.rawB4 (IntKind.u64.wrap (IntKind.i64.wrap (t.x+(65536:Int)))) ++ Sha.rawB4 (IntKind.u64.wrap (IntKind.i64.wrap (t.y+(65536:Int))))),.str k])) 5)),
   ([(decide (Int.ofNat i < Int.ofNat n),false)],[],.to (.exit 0) (sRk0 n cs i))]:=RunIs.of (by kernel_rfl) (by kernel_rfl) (by kernel_rfl)
theorem rk_4 (n:Nat) (cs:List D) (i m:Nat) (ds:List D) (t:Tl) (k:List UInt8):RunE (csH (pinN 71 [tlV t.p] (.str k) Wbg) []) [(13,.split),(19,.give (.fptr t.d)),(37,.give (.fptr t.d)),(15,.give (iW (i+1)))] 3 Tryz.f50 [1,3,4] (inner (inner (seqR (seqL tlRk)))) (sRk1 n cs i m ds)
  [([(decide (Int.ofNat i < Int.ofNat n),true)],[(0:Int) ≤ Int.ofNat i∧Int.ofNat i < Int.ofNat n,cs.length=n * 258,V.fptr (cellsAt cs (i * 258) 258)=V.fptr t.d,(Sha.rawB4 (IntKind.u64.wrap (IntKind.i64.wrap (t.x+(65536:Int))))).length+(Sha.rawB4 (IntKind.u64.wrap (IntKind.i64.wrap (t.y+(65536:Int))))).length ≤ 9223372036854775807,(0:Int) ≤ Int.ofNat i∧Int.ofNat i < Int.ofNat n,cs.length=n * 258,V.fptr (cellsAt cs (i * 258) 258)=V.fptr t.d,pinA [tlV t.p],0+m * 1 ≤ ds.length,0 < 2,roomy (m+2) 1 16=true,V.int .i64 (IntKind.i64.wrap (Int.ofNat i+(1:Int)))=iW (i+1)],.to .normal (sRk1 n cs (i+1) (m+2) (List.take (m * 1) (List.drop 0 ds) ++ [.str (Sha.rawB4 (IntKind.u64.wrap (IntKind.i64.wrap (t.x+(65536:Int)))) ++ Sha.rawB4 (IntKind.u64.wrap (IntKind.i64.wrap (t.y+(65536:Int))))),.str k]))),
   ([(decide (Int.ofNat i < Int.ofNat n),false)],[],.to (.exit 0) (sRk1 n cs i m ds))]:=RunIs.of (by kernel_rfl) (by kernel_rfl) (by kernel_rfl)
def sRkE (n:Nat) (cs:List D) (i m:Nat) (ds:List D):St:=stG [(1,.ptr (some (3,0))),(3,.lst false m ds),(4,iW i)] (hL [(3,.cells [.lst false n cs])]) 4
theorem rk_5 (n:Nat) (cs:List D) (i m:Nat) (ds:List D):∃ L,RunIs Tryz.prog (csH (addW 49 (Go.Eng.dW Sha.specJr) noW) []) [] 1000 3 Tryz.f50 [] (seqR tlRk) (sRkE n cs i m ds) L
  [([],
   [(ds=Sha.strs (Sha.strL ds)),(m=(Sha.strL ds).length),(m ≤ 1000000),((Sha.joinB (Sha.strL ds)).length ≤ 1000000000)],
   .ret (.str (Sha.sha (Sha.joinB (Sha.strL ds)))) (hL []) 3)]
 :=RunIs.of (by kernel_rfl) (by kernel_rfl) (by kernel_rfl)
theorem rk_6 (n:Nat) (cs:List D) (i:Nat):∃ L,RunIs Tryz.prog (csH (addW 49 (Go.Eng.dW Sha.specJr) noW) []) [] 1000 3 Tryz.f50 [] (seqR tlRk) (sRk0 n cs i) L
  [([],
   [([]=Sha.strs (Sha.strL [])),(0=0),(0 ≤ 1000000),(0 ≤ 1000000000)],
   .ret (.str [227,176,196,66,152,252,28,20,154,251,244,200,153,111,185,36,39,174,65,228,100,155,147,76,164,149,153,27,120,82,184,85]) (hL []) 3)]
 :=RunIs.of (by kernel_rfl) (by kernel_rfl) (by kernel_rfl)
end Go.Proofs.YtmjggdmekboefaaGreatDoor
namespace Go.Proofs.YtmjggdmekboefaaGreatDoor
open Go Go.Eng
set_option maxRecDepth 100000
open Sha (sha strs joinB strL strL_strs)
theorem roomy_ok1 {k:Nat} (h:k ≤ 1000000000):roomy k 1 1=true:=by
 unfold roomy
 exact decide_eq_true ⟨by omega,by omega⟩
def SRt (p:Nat→Int):Nat→St
 | 0=>sTy (tl p) 0
 | i+1=>sTx (tl p) ((tl p).take (4 * (i+1))) (4 * (i+1)) (i+1)
theorem tl_step (p:Nat→Int) {i:Nat} (h:i < 64):(tl p).take (4 * i) ++ [p (4 * i),p (4 * i+1),p (4 * i+2),p (4 * i+3)]=(tl p).take (4 * (i+1)):=by
 have e:∀ j,j < 256→(tl p).take (j+1)=(tl p).take j ++ [p j]:=fun j hj=>by
  have:(tl p)[j]? =some (p j):=by simp [tl,List.getElem?_map,List.getElem?_range hj]
  rw [List.take_add_one,this]; rfl
 rw [show 4 * (i+1)=4 * i+3+1 by omega,e _ (by omega),show 4 * i+3=4 * i+2+1 by omega,e _ (by omega),show 4 * i+2=4 * i+1+1 by omega,e _ (by omega),e _ (by omega)]
 simp only [List.append_assoc,List.cons_append,List.nil_append]
theorem rtD (p:Nat→Int):DeepTo Tryz.prog 101 [tlV p] (.str (tileB p)):=by
 refine deepT Tryz.func101 ?_
 refine isE1 2 (noW_ok _) (rt_1 p) all_nil (TG_own [(3,.u8)] (s2:=stG [(1,.ptr (some (3,0))),(3,.slc (some (4,0)) 0 0 1)] (hL [(3,.own .u8 (tl p)),(4,.cells [])]) 5) (by kernel_rfl) ?_)
 refine loopF (noW_ok _) 0 _ [1,3,4] (64 - ·) (· ≤ 64) (SRt p) 0 (by decide) (rt_2 (tl p)) all_nil .refl fun i hi=>?_
 have A (hlt:i < 64):=fun {l} (t:∀ a ∈ l,a)=>fm (b64 hlt) (fm (show 0+i * 4+0 < (tl p).length by rw [tl_len]; omega) (fm (show V.int .u8 ((tl p).getD (0+i * 4+0) 0)=V.int .u8 (p (4 * i)) by rw [tl_get p (by omega)]; congr 2; omega) (fm (b64 hlt) (fm (show 0+i * 4+1 < (tl p).length by rw [tl_len]; omega) (fm (show V.int .u8 ((tl p).getD (0+i * 4+1) 0)=V.int .u8 (p (4 * i+1)) by rw [tl_get p (by omega)]; congr 2; omega)
  (fm (b64 hlt) (fm (show 0+i * 4+2 < (tl p).length by rw [tl_len]; omega) (fm (show V.int .u8 ((tl p).getD (0+i * 4+2) 0)=V.int .u8 (p (4 * i+2)) by rw [tl_get p (by omega)]; congr 2; omega) (fm (b64 hlt) (fm (show 0+i * 4+3 < (tl p).length by rw [tl_len]; omega) (fm (show V.int .u8 ((tl p).getD (0+i * 4+3) 0)=V.int .u8 (p (4 * i+3)) by rw [tl_get p (by omega)]; congr 2; omega) t)))))))))))
 have st:=tl_step p (i:=i)
 cases i with
 | zero=>
   refine ⟨_,noW_ok _,[],_,_,rt_3 (tl p) 0 (p 0) (p 1) (p 2) (p 3),gcons (g1 fun h1=>⟨A (by decide) (fm1 (vsuc (by omega))),1,by decide,by decide,?_⟩) (gone (g1 fun h=>absurd (n64 h) (by decide)))⟩
   show Goes _ _ _ _ (sTx (tl p) [p 0,p 1,p 2,p 3] 4 1)
   exact .own [(4,.u8)] (by kernel_rfl)
 | succ j=>
   have hl:((tl p).take (4 * (j+1))).length=4 * (j+1):=by rw [List.length_take,tl_len]; omega
   have h5:=rt_5 (tl p) ((tl p).take (4 * (j+1))) (4 * (j+1)) (j+1)
   have h4:=rt_4 (tl p) ((tl p).take (4 * (j+1))) (4 * (j+1)) (j+1) (p (4 * (j+1))) (p (4 * (j+1)+1)) (p (4 * (j+1)+2)) (p (4 * (j+1)+3))
   rw [List.drop_zero,Nat.mul_one,List.take_length,hl] at h4
   refine ⟨_,noW_ok _,[],_,_,h4,gcons (g1 fun h1=>?_) (gone (g1 fun h=>⟨all_nil,rfl,?_⟩))⟩
   · have hlt:=d64 h1
     refine ⟨A hlt (fm (by omega) (fm (by omega) (fm (by decide) (fm (roomy_ok1 (by omega)) (fm1 (vsuc (by omega))))))),j+2,by show 64 - (j+2) < 64 - (j+1); omega,by show j+2 ≤ 64; omega,?_⟩
     rw [st hlt]
     have e:((tl p).take (4 * (j+1+1))).length=4 * (j+1)+4:=by rw [List.length_take,tl_len]; omega
     show Goes _ _ _ _ (sTx (tl p) ((tl p).take (4 * (j+1+1))) (4 * (j+1+1)) (j+1+1))
     unfold sTx
     rw [e]
     exact .refl
   · obtain rfl:j=63:=by have:=n64 h; omega
     have e:(tl p).take (4 * (63+1))=tl p:=List.take_of_length_le (by rw [tl_len]; decide)
     rw [e] at h5 hl ⊢
     have e2:stG [(1,.ptr (some (3,0))),(3,.slc (some (4,0)) (4 * (63+1)) (4 * (63+1)) 1),(4,.int .i64 (Int.ofNat (63+1)))] (hL [(3,.own .u8 (tl p)),(4,.own .u8 (tl p))]) 5=sTx (tl p) (tl p) (4 * (63+1)) (63+1):=by unfold sTx; rw [hl]
     rw [e2]
     refine retE (noW_ok _) h5 (gone (g0 ⟨fm1 (by omega),_,_,_,rfl,?_⟩))
     rw [List.drop_zero,List.take_length]; rfl
theorem r4_eq (y:Int):Sha.rawB4 (IntKind.u64.wrap y)=put4 y:=by
 unfold Sha.rawB4 put4 pB
 generalize IntKind.u64.wrap y=x
 rw [Sha.fdv x 256 256 65536 (by decide) (by decide) (by decide),Sha.fdv x 65536 256 16777216 (by decide) (by decide) (by decide),Int.fdiv_one]
theorem ktD (p:Nat→Int):DeepTo Tryz.prog 71 [tlV p] (.str (sha (tileB p))):=
 deepT Tryz.func71 (retE (pinK (rtD p) (addW_ok Sha.one_Vo (noW_ok _))) (rt_6 p (tileB p)) (gone (g0 ⟨fm rfl (fm1 (by unfold tileB strI; rw [List.length_map,tl_len]; decide)),_,_,_,rfl,rfl⟩)))
theorem Wbg_ok:CtrWOk Tryz.prog Wbg:=addW_ok Sha.one_Bg (noW_ok _)
theorem eqT_iff (p q:Nat→Int):eqT p q=true ↔ ∀ j,j < 256→p j=q j:=by
 unfold eqT
 simp only [List.all_eq_true,List.mem_range,Bool.and_eq_true,beq_iff_eq,and_true]
 constructor
 · intro h j hj
   obtain ⟨h0,h1,h2,h3⟩:=h (j / 4) (by omega)
   rcases (by omega:j=j / 4 * 4 ∨ j=j / 4 * 4+1 ∨ j=j / 4 * 4+2 ∨ j=j / 4 * 4+3) with e | e | e | e
   · rw [e]; exact h0
   · rw [e]; exact h1
   · rw [e]; exact h2
   · rw [e]; exact h3
 · intro h i hi
   exact ⟨h _ (by omega),h _ (by omega),h _ (by omega),h _ (by omega)⟩
theorem okV_iff (u:Option Tl) (t:Tl):okV u t=true ↔ okT t∧∀ v,u=some v→le8 v.x v.y t.x t.y=true:=by
 have hz:eqT (clnT t.p) (fun _=>0)=zeroT t.p:=by
  rw [Bool.eq_iff_iff,eqT_iff,zeroT,cD_iff]
  unfold clnT cl
  constructor
  · intro h i hi
    have:=h (4 * i+3) (by omega)
    rw [show (4 * i+3) / 4=i by omega] at this
    split at this <;> assumption
  · intro h j hj
    rw [if_pos (h (j / 4) (by omega))]
 have hs:eqT (clnT t.p) t.p=sameT (clnT t.p) t.p:=by rw [Bool.eq_iff_iff,eqT_iff,sameT,cD_iff]
 have ho:∀ v:Tl,orI (cmpI v.y t.y) (cmpI v.x t.x) < 0 ↔ le8 v.x v.y t.x t.y=true:=fun v=>by
  unfold orI cmpI le8
  simp only [Bool.or_eq_true,Bool.and_eq_true,decide_eq_true_eq,beq_iff_eq]
  repeat' split
  all_goals omega
 unfold okV okT
 rw [hz,hs]
 simp only [Bool.and_eq_true,Bool.not_eq_true']
 cases u with
 | none=>simp
 | some v=>simp only [decide_eq_true_eq,ho,Option.some.injEq,forall_eq',and_assoc]
theorem valV_iff:∀ (l:List Tl) (u:Option Tl),valV u l=true ↔ ∀ i t,l[i]? =some t→okV (if i=0 then u else l[i - 1]?) t=true
 | [],u=>by simp [valV]
 | t :: l,u=>by
   unfold valV
   rw [Bool.and_eq_true,valV_iff l (some t)]
   constructor
   · rintro ⟨h1,h2⟩ i v hv
     cases i with
     | zero=>simp only [List.getElem?_cons_zero,Option.some.injEq] at hv; subst hv; exact h1
     | succ i=>
       have:=h2 i v (by simpa using hv)
       cases i with
       | zero=>simpa using this
       | succ i=>simpa using this
   · intro h
     refine ⟨h 0 t rfl,fun i v hv=>?_⟩
     have:=h (i+1) v (by simpa using hv)
     cases i with
     | zero=>simpa using this
     | succ i=>simpa using this
theorem rv_valid (l:List Tl):rvF l=cD (validR l):=by
 rw [Bool.eq_iff_iff,cD_iff]
 unfold rvF validR okP
 rw [Bool.and_eq_true,decide_eq_true_eq,valV_iff]
 refine and_congr_right fun _=>⟨fun h i _ t ht=>?_,fun h i t ht=>?_⟩
 · obtain ⟨h1,h2⟩:=(okV_iff _ t).1 (h i t ht)
   exact ⟨h1,fun hi u hu=>h2 u (by rw [if_neg (by omega)]; exact hu)⟩
 · obtain ⟨h1,h2⟩:=h i (List.getElem?_eq_some_iff.1 ht).1 t ht
   refine (okV_iff _ t).2 ⟨h1,fun v hv=>?_⟩
   split at hv
   · rename_i q
     subst q
     cases hv
   · exact h2 (by omega) v hv
end Go.Proofs.YtmjggdmekboefaaGreatDoor
namespace Go.Proofs.YtmjggdmekboefaaGreatDoor
open Go Go.Eng
set_option maxRecDepth 100000
open Sha (sha strs joinB strL strL_strs)
def sRki (l:List Tl):Nat→St
 | 0=>sRk0 l.length (tlD l) 0
 | i+1=>sRk1 l.length (tlD l) (i+1) (2 * (i+1)) (strs (kyL (l.take (i+1))))
theorem keyR_of (l:List Tl):keyR l=sha (joinB (kyL (ofF l))):=by
 unfold keyR ofF
 rw [rv_valid]
 split <;> rfl
theorem Wjr_ok:CtrWOk Tryz.prog (addW 49 (Go.Eng.dW Sha.specJr) noW):=addW_ok Sha.one_Jr (noW_ok _)
theorem rkD (l:List Tl) (hl:l.length ≤ 1000000):DeepTo Tryz.prog 50 [rasV l] (.str (keyR l)):=by
 refine deepT Tryz.func50 ?_
 rw [keyR_of]
 have hk:=ofD l hl
 have hm:=ofF_len l
 refine isE1 3 (pinK hk (noW_ok _)) (rk_1 l.length (ofF l).length (tlD l) (tlD (ofF l))) (fm1 rfl) ?_
 generalize ofF l=l at hm ⊢
 refine loopF (noW_ok _) 0 _ [1,3,4] (l.length - ·) (· ≤ l.length) (sRki l) 0 (Nat.zero_le _) (rk_2 _ _) all_nil .refl fun i hi=>?_
 have hlen:=tlD_len l
 have hput:∀ x y:Int,(Sha.rawB4 x).length+(Sha.rawB4 y).length ≤ 9223372036854775807:=fun x y=>by
  show 4+4 ≤ _; decide
 obtain ⟨t,htt⟩:∃ t:Tl,∀ h:i < l.length,l[i]? =some t∧V.fptr (cellsAt (tlD l) (i * 258) 258)=V.fptr t.d:=by
  by_cases h:i < l.length
  · exact ⟨l[i],fun _=>⟨List.getElem?_eq_getElem h,tlD_at h⟩⟩
  · exact ⟨⟨0,0,fun _=>0⟩,fun q=>absurd q h⟩
 have X:=pinK (ktD t.p) Wbg_ok
 have hka:Sha.rawB4 (IntKind.u64.wrap (IntKind.i64.wrap (t.x+(65536:Int)))) ++ Sha.rawB4 (IntKind.u64.wrap (IntKind.i64.wrap (t.y+(65536:Int))))=kyA t:=by rw [r4_eq,r4_eq]; rfl
 cases i with
 | zero=>
   have h3:=rk_3 l.length (tlD l) 0 t (sha (tileB t.p))
   rw [hka] at h3
   refine ⟨_,X,_,_,_,h3,gcons (g1 fun h=>?_) (gone (g1 fun h=>⟨all_nil,rfl,?_⟩))⟩
   · have hlt:=dlt h
     obtain ⟨h1,h2⟩:=htt hlt
     refine ⟨?_,1,lsub hlt,hlt,?_⟩
     · exact fm (ibd hlt) (fm hlen (fm h2 (fm (hput _ _) (fm (ibd hlt) (fm hlen (fm h2 (fm rfl (fm1 (vsuc (by omega))))))))))
     show Goes _ _ _ _ (sRk1 l.length (tlD l) (0+1) (2 * (0+1)) (strs (kyL (l.take (0+1)))))
     rw [kyL_step h1]
     exact .deep [4] (by kernel_rfl)
   · have:=dge h
     have e:l=[]:=List.length_eq_zero_iff.1 (by omega)
     subst e
     exact retE Wjr_ok (rk_6 _ _ _) (gone (g0 ⟨fm rfl (fm rfl (fm (by decide) (fm1 (by decide)))),_,_,_,rfl,rfl⟩))
 | succ j=>
   have hk:=kyL_len (l.take (j+1))
   rw [List.length_take] at hk
   have h4:=rk_4 l.length (tlD l) (j+1) (2 * (j+1)) (strs (kyL (l.take (j+1)))) t (sha (tileB t.p))
   rw [hka] at h4
   refine ⟨_,X,_,_,_,h4,gcons (g1 fun h=>?_) (gone (g1 fun h=>⟨all_nil,rfl,?_⟩))⟩
   · have hlt:=dlt h
     obtain ⟨h1,h2⟩:=htt hlt
     refine ⟨?_,j+2,by show l.length - (j+2) < l.length - (j+1); omega,hlt,?_⟩
     · repeat' (first | exact all_nil | refine fm ?_ ?_)
       all_goals first
        | exact ibd hlt
        | exact hlen
        | exact h2
        | exact hput _ _
        | exact rfl
        | exact roomy_k (by omega)
        | exact vsuc (by omega)
        | (rw [strs_len]; omega)
        | decide
     show Goes _ _ _ _ (sRk1 l.length (tlD l) (j+1+1) (2 * (j+1+1)) (strs (kyL (l.take (j+1+1)))))
     rw [kyL_step h1,strs_app,List.drop_zero,List.take_of_length_le (by rw [strs_len]; omega)]
     exact .refl
   · have hn:j+1=l.length:=by have:=dge h; omega
     rw [hn,List.take_length] at *
     have hq:=strL_strs (kyL l)
     refine Goes.fzG [4] [1,3,4] (S:=sRkE l.length (tlD l) l.length (2 * l.length) (strs (kyL l))) (A:=[(strs (kyL l)).length=2 * l.length * 1]) (by kernel_rfl) (fm1 (by rw [strs_len,kyL_len]; omega)) _ _ ?_
     refine retE Wjr_ok (rk_5 _ _ _ _ _) (gone (g0 ⟨?_,_,_,_,rfl,by rw [hq]⟩))
     rw [hq]
     exact fm rfl (fm (kyL_len l).symm (fm (by omega) (fm1 (kyB_len l (by omega)))))
end Go.Proofs.YtmjggdmekboefaaGreatDoor
namespace Go.Proofs.YtmjggdmekboefaaGreatDoor
open Go Go.Eng
set_option maxRecDepth 100000
theorem rs_1 (x n:Int):∃ L,RunIs Tryz.prog (csH noW []) [] 1000 3 Tryz.f14 [] (bodyOf Tryz.f14) (startSt [iX x,iX n] .nil 3) L
  [([],
   [(n ≠ (0:Int)),(n ≠ (0:Int))],
   .ret (.int .i64 ((IntKind.i64.wrap (x.tmod n+n)).tmod n)) (hL []) 3)]
 :=RunIs.of (by kernel_rfl) (by kernel_rfl) (by kernel_rfl)
noncomputable abbrev cdFw:Code:=bodyOf Tryz.f11
theorem fw_1 (l:Lay) (k1 k2 k3 k4 k5 k6 k7:Nat):∃ L,RunIs Tryz.prog (csH noW []) [(8,.give (iW k1)),(16,.give (iW k2)),(24,.give (iW k3)),(34,.give (iW k4)),(45,.give (iW k5)),(56,.give (iW k6)),(67,.give (iW k7))] 1000 3 Tryz.f11 [] (cdFw) (startSt [l.v] .nil 3) L
  [([],
   [(V.int IntKind.i64 (if (20:Int) < (Int.ofNat l.nm.length) then (20:Int) else (Int.ofNat l.nm.length))=iW k1),((0:Int) ≤ Int.ofNat k1∧Int.ofNat k1 ≤ (Int.ofNat l.nm.length)),(V.int IntKind.i64 (if (6:Int) < (Int.ofNat l.kids.length) then (6:Int) else (Int.ofNat l.kids.length))=iW k2),((isD l.kids).length=l.kids.length * 1),((0:Int) ≤ Int.ofNat k2∧Int.ofNat k2 ≤ (Int.ofNat l.kids.length)),(V.int IntKind.i64 (if (70:Int) < (Int.ofNat l.pth.length) then (70:Int) else (Int.ofNat l.pth.length))=iW k3),((ptD l.pth).length=l.pth.length * 2),((0:Int) ≤ Int.ofNat k3∧Int.ofNat k3 ≤ (Int.ofNat l.pth.length)),(V.int IntKind.i64 (if (30:Int) < (Int.ofNat l.f.ker.length) then (30:Int) else (Int.ofNat l.f.ker.length))=iW k4),((isD l.f.ker).length=l.f.ker.length * 1),((0:Int) ≤ Int.ofNat k4∧Int.ofNat k4 ≤ (Int.ofNat l.f.ker.length)),(V.int IntKind.i64 (if (30:Int) < (Int.ofNat l.f.cu.length) then (30:Int) else (Int.ofNat l.f.cu.length))=iW k5),((isD l.f.cu).length=l.f.cu.length * 1),((0:Int) ≤ Int.ofNat k5∧Int.ofNat k5 ≤ (Int.ofNat l.f.cu.length)),(V.int IntKind.i64 (if (3:Int) < (Int.ofNat l.con.length) then (3:Int) else (Int.ofNat l.con.length))=iW k6),((tlD l.con).length=l.con.length * 258),((0:Int) ≤ Int.ofNat k6∧Int.ofNat k6 ≤ (Int.ofNat l.con.length)),(V.int IntKind.i64 (if (3:Int) < (Int.ofNat l.msk.length) then (3:Int) else (Int.ofNat l.msk.length))=iW k7),((tlD l.msk).length=l.msk.length * 258),((0:Int) ≤ Int.ofNat k7∧Int.ofNat k7 ≤ (Int.ofNat l.msk.length))],
   .ret (.agg [.int .i64 (l.id),.int .i64 (l.kd),.str (List.drop 0 (List.take k1 l.nm)),.bool (l.hid),.int .i64 (l.op),.int .i64 (l.md),.bool (l.clip),.int .i64 (l.pl.a),.int .i64 (l.pl.b),.int .i64 (l.pl.c),.int .i64 (l.pl.d),.int .i64 (l.pl.e),.int .i64 (l.pl.f),.int .i64 (l.pl.n),.int .i64 (l.sp),.lst false (k2 - 0) (cellsAt (isD l.kids) 0 ((k2 - 0) * 1)),.int .i64 (l.of),.int .i64 (l.f.k),.int .i64 (l.f.r),.lst false (k4 - 0) (cellsAt (isD l.f.ker) 0 ((k4 - 0) * 1)),.int .i64 (l.f.dv),.int .i64 (l.f.vl),.lst false (k5 - 0) (cellsAt (isD l.f.cu) 0 ((k5 - 0) * 1)),.int .u8 (l.fi.r),.int .u8 (l.fi.g),.int .u8 (l.fi.b),.int .u8 (l.fi.a),.lst false (k3 - 0) (cellsAt (ptD l.pth) 0 ((k3 - 0) * 2)),.lst false (k6 - 0) (cellsAt (tlD l.con) 0 ((k6 - 0) * 258)),.bool (l.hm),.lst false (k7 - 0) (cellsAt (tlD l.msk) 0 ((k7 - 0) * 258))]) (hL []) 3)]
 :=RunIs.of (by kernel_rfl) (by kernel_rfl) (by kernel_rfl)
noncomputable abbrev Wry:CtrW:=addW 50 (Go.Eng.dW specKy) (addW 49 (thawD Sha.specJr) noW)
theorem ry_1 (l:Lay) (h:List UInt8):∃ L,RunIs Tryz.prog (csH (pinN 12 [l.v] (.str h) Wry) []) [] 1000 3 Tryz.f15 [] (bodyOf Tryz.f15) (startSt [l.v] .nil 3) L
  [([],
   [(pinA [l.v]),(tlD l.con=tlD (rsL (tlD l.con))),(l.con.length=(rsL (tlD l.con)).length),(l.con.length ≤ 1000000),(tlD l.msk=tlD (rsL (tlD l.msk))),(l.msk.length=(rsL (tlD l.msk)).length),(l.msk.length ≤ 1000000),([D.str h,D.str (keyR (rsL (tlD l.con))),D.str (keyR (rsL (tlD l.msk)))].length=3),([D.str h,D.str (keyR (rsL (tlD l.con))),D.str (keyR (rsL (tlD l.msk)))]=Sha.strs (Sha.strL [D.str h,D.str (keyR (rsL (tlD l.con))),D.str (keyR (rsL (tlD l.msk)))])),(3=(Sha.strL [D.str h,D.str (keyR (rsL (tlD l.con))),D.str (keyR (rsL (tlD l.msk)))]).length),(3 ≤ 1000000),((Sha.joinB (Sha.strL [D.str h,D.str (keyR (rsL (tlD l.con))),D.str (keyR (rsL (tlD l.msk)))])).length ≤ 1000000000)],
   .ret (.str (Sha.sha (Sha.joinB (Sha.strL [D.str h,D.str (keyR (rsL (tlD l.con))),D.str (keyR (rsL (tlD l.msk)))])))) (hL []) 3)]
 :=RunIs.of (by kernel_rfl) (by kernel_rfl) (by kernel_rfl)
theorem rr_1:∃ L,RunIs Tryz.prog (csH noW []) [] 1000 3 Tryz.f51 [] (bodyOf Tryz.f51) (startSt [rasV [],rasV []] .nil 3) L
  [([],
   [],
   .ret (.bool true) (hL []) 3)]
 :=RunIs.of (by kernel_rfl) (by kernel_rfl) (by kernel_rfl)
def anyN (f0:FuncId) (g:List V→V) (S:CtrW):CtrW:=fun f args h n=>match Nat.beq f f0 with
 | true=>some ([DeepTo Tryz.prog f0 (V.nls args) (g (V.nls args))],g (V.nls args),h,n)
 | false=>S f args h n
theorem anyN_ok {f0:FuncId} {g:List V→V} {S:CtrW} (hS:CtrWOk Tryz.prog S) (hlt:Nat.blt f0 Tryz.prog.funcs.size=true:=by kernel_rfl):CtrWOk Tryz.prog (anyN f0 g S):=by
 intro f args h n A v' h' n' e
 unfold anyN at e
 split at e
 · rename_i hb
   have hb:=Nat.eq_of_beq_eq_true hb
   subst hb
   simp only [Option.some.injEq,Prod.mk.injEq] at e
   obtain ⟨rfl,rfl,rfl,rfl⟩:=e
   refine ⟨Nat.le_of_ble_eq_true hlt,fun hA E w args' ra g hd _=>?_⟩
   exact hA _ (List.mem_singleton.2 rfl) E h n w args' (nls_rel _ _ ra) g hd
 · exact hS f args h n A v' h' n' e
open Classical in
noncomputable def hdG (args:List V):List UInt8:=if h:∃ l,okL l∧args=[l.v] then headF (Classical.choose h) else []
theorem ll_1 (a b:Lay):RunE (csH (anyN 12 (fun x=>.str (hdG x)) (pinN 51 [rasV [],rasV []] (.bool true) noW)) []) [(9,.give (.bool true))] 3 Tryz.f16 [] (bodyOf Tryz.f16) (startSt [{ a with con:=[],msk:=[] }.v,{ b with con:=[],msk:=[] }.v] .nil 3)
  [([],[DeepTo Tryz.prog 12 [{ a with con:=[],msk:=[] }.v] (.str (hdG [{ a with con:=[],msk:=[] }.v])),DeepTo Tryz.prog 12 [{ b with con:=[],msk:=[] }.v] (.str (hdG [{ b with con:=[],msk:=[] }.v])),V.bool (beqB (hdG [{ a with con:=[],msk:=[] }.v]) (hdG [{ b with con:=[],msk:=[] }.v]))=V.bool true,pinA [rasV [],rasV []],pinA [rasV [],rasV []]],.ret (.bool true) (hL []) 3)]:=RunIs.of (by kernel_rfl) (by kernel_rfl) (by kernel_rfl)
end Go.Proofs.YtmjggdmekboefaaGreatDoor
namespace Go.Proofs.YtmjggdmekboefaaGreatDoor
open Go Go.Eng
set_option maxRecDepth 100000
open Sha (sha strs joinB strL strL_strs)
theorem restD (x:Int) (n:Nat) (h0:0 < n) (hn:n ≤ 1000000000):∃ k,k < n∧DeepTo Tryz.prog 14 [iX x,iW n] (iW k):=by
 have h1:=Int.tmod_lt_of_pos x (show (0:Int) < Int.ofNat n by rw [hOn]; omega)
 have h2:-(n:Int) < x.tmod (Int.ofNat n):=by
  have h3:=Int.tmod_lt_of_pos (-x) (show (0:Int) < Int.ofNat n by rw [hOn]; omega)
  rw [Int.neg_tmod] at h3
  rw [hOn] at h3 ⊢
  omega
 have e:IntKind.i64.wrap (x.tmod (Int.ofNat n)+Int.ofNat n)=x.tmod (Int.ofNat n)+Int.ofNat n:=wrap_id (by rw [hOn] at *; omega) (by rw [hOn] at *; omega)
 have h4:0 ≤ x.tmod (Int.ofNat n)+Int.ofNat n:=by rw [hOn] at *; omega
 have h5:=Int.tmod_lt_of_pos (x.tmod (Int.ofNat n)+Int.ofNat n) (show (0:Int) < Int.ofNat n by rw [hOn]; omega)
 have h6:=Int.tmod_nonneg (Int.ofNat n) h4
 refine ⟨((x.tmod (Int.ofNat n)+Int.ofNat n).tmod (Int.ofNat n)).toNat,?_,deepT Tryz.func14 (retE (noW_ok _) (rs_1 x (Int.ofNat n)) (gone (g0 ⟨?_,_,_,_,rfl,?_⟩)))⟩
 · rw [hOn] at *; omega
 · have:Int.ofNat n ≠ 0:=by rw [hOn]; omega
   exact fm this (fm1 this)
 · rw [e]
   exact congrArg (V.int .i64) (Int.toNat_of_nonneg h6).symm
def fewF (l:Lay):Lay:={ l with nm:=l.nm.take 20,kids:=l.kids.take 6,pth:=l.pth.take 70,f:={ l.f with ker:=l.f.ker.take 30,cu:=l.f.cu.take 30 },con:=l.con.take 3,msk:=l.msk.take 3 }
theorem flat_take {α:Type} {f:α→List D} {w:Nat} (hf:∀ x,(f x).length=w):∀ (l:List α) (k:Nat),((l.map f).flatten).take (k * w)=((l.take k).map f).flatten
 | [],k=>by simp
 | x :: l,0=>by simp
 | x :: l,k+1=>by
   rw [List.map_cons,List.flatten_cons,List.take_succ_cons,List.map_cons,List.flatten_cons,← flat_take hf l k,show (k+1) * w=(f x).length+k * w by rw [hf,Nat.add_mul]; omega,List.take_length_add_append]
theorem fewD (l:Lay):DeepTo Tryz.prog 11 [l.v] (fewF l).v:=by
 have mn:∀ (a b:Nat),V.int IntKind.i64 (if ((a:Int)) < (Int.ofNat b) then (a:Int) else (Int.ofNat b))=iW (min a b):=fun a b=>by
  show _=V.int .i64 (Int.ofNat (min a b))
  congr 1
  simp only [hOn]
  split <;> omega
 have bd:∀ (a b:Nat),(0:Int) ≤ Int.ofNat (min a b)∧Int.ofNat (min a b) ≤ Int.ofNat b:=fun a b=>by simp only [hOn]; omega
 have hz:(fewF l).v= .agg [.int .i64 (l.id),.int .i64 (l.kd),.str (List.drop 0 (List.take (min 20 l.nm.length) l.nm)),.bool (l.hid),.int .i64 (l.op),.int .i64 (l.md),.bool (l.clip),.int .i64 (l.pl.a),.int .i64 (l.pl.b),.int .i64 (l.pl.c),.int .i64 (l.pl.d),.int .i64 (l.pl.e),.int .i64 (l.pl.f),.int .i64 (l.pl.n),.int .i64 (l.sp),.lst false (min 6 l.kids.length - 0) (cellsAt (isD l.kids) 0 ((min 6 l.kids.length - 0) * 1)),.int .i64 (l.of),.int .i64 (l.f.k),.int .i64 (l.f.r),.lst false (min 30 l.f.ker.length - 0) (cellsAt (isD l.f.ker) 0 ((min 30 l.f.ker.length - 0) * 1)),.int .i64 (l.f.dv),.int .i64 (l.f.vl),.lst false (min 30 l.f.cu.length - 0) (cellsAt (isD l.f.cu) 0 ((min 30 l.f.cu.length - 0) * 1)),.int .u8 (l.fi.r),.int .u8 (l.fi.g),.int .u8 (l.fi.b),.int .u8 (l.fi.a),.lst false (min 70 l.pth.length - 0) (cellsAt (ptD l.pth) 0 ((min 70 l.pth.length - 0) * 2)),.lst false (min 3 l.con.length - 0) (cellsAt (tlD l.con) 0 ((min 3 l.con.length - 0) * 258)),.bool (l.hm),.lst false (min 3 l.msk.length - 0) (cellsAt (tlD l.msk) 0 ((min 3 l.msk.length - 0) * 258))]:=by
  have tk:∀ {α:Type} (k:Nat) (l:List α),l.take (min k l.length)=l.take k:=fun k l=>by
   rcases Nat.le_total k l.length with h | h
   · rw [Nat.min_eq_left h]
   · rw [Nat.min_eq_right h,List.take_length,List.take_of_length_le h]
  have e1:∀ (k:Nat) (l:List Int),isV (l.take k)= .lst false (min k l.length - 0) (cellsAt (isD l) 0 ((min k l.length - 0) * 1)):=fun k l=>by
   unfold cellsAt
   rw [Nat.sub_zero,List.drop_zero,Nat.mul_one]
   show V.lst false (l.take k).length (isD (l.take k))=_
   rw [List.length_take]
   unfold isD
   rw [List.map_take]
   congr 1
   rw [← tk k (l.map _),List.length_map]
  have e2:ptV (l.pth.take 70)= .lst false (min 70 l.pth.length - 0) (cellsAt (ptD l.pth) 0 ((min 70 l.pth.length - 0) * 2)):=by
   unfold cellsAt
   rw [Nat.sub_zero,List.drop_zero]
   show V.lst false (l.pth.take 70).length (ptD (l.pth.take 70))=_
   rw [List.length_take]
   congr 1
   unfold ptD
   rw [flat_take (f:=fun p:Int × Int=>[D.int .i64 p.1,D.int .i64 p.2]) (w:=2) (fun _=>rfl),tk]
  have e3:∀ l:List Tl,rsV (l.take 3)= .lst false (min 3 l.length - 0) (cellsAt (tlD l) 0 ((min 3 l.length - 0) * 258)):=fun l=>by
   unfold cellsAt
   rw [Nat.sub_zero,List.drop_zero]
   show V.lst false (l.take 3).length (tlD (l.take 3))=_
   rw [List.length_take]
   congr 1
   unfold tlD
   rw [flat_take (f:=Tl.d) Tl.d_len,tk]
  rw [List.drop_zero,tk,← e1,← e1,← e1,← e2,← e3,← e3]
  rfl
 rw [hz]
 refine deepT Tryz.func11 (retE (noW_ok _) (fw_1 l (min 20 l.nm.length) (min 6 l.kids.length) (min 70 l.pth.length) (min 30 l.f.ker.length) (min 30 l.f.cu.length) (min 3 l.con.length) (min 3 l.msk.length)) (gone (g0 ⟨?_,_,_,_,rfl,rfl⟩)))
 repeat' (first | exact all_nil | refine fm ?_ ?_)
 all_goals first
  | exact mn _ _
  | exact bd _ _
  | exact isD_len _
  | exact ptD_len _
  | exact tlD_len _
theorem one_Kyr:OneW Tryz.prog 50 (Go.Eng.dW specKy):=by
 refine dW_ok (Nat.le_of_ble_eq_true (by kernel_rfl)) fun ds A v e hA=>?_
 unfold specKy at e
 split at e
 case h_2=>cases e
 rename_i n cs
 obtain ⟨rfl,rfl⟩:=sm e
 have e1:cs=tlD (rsL cs):=hA _ (by simp)
 have e2:n=(rsL cs).length:=hA (n=(rsL cs).length) (by simp)
 have e3:n ≤ 1000000:=hA (n ≤ 1000000) (by simp)
 generalize rsL cs=l at *
 subst e1 e2
 exact rkD l e3
theorem Wry_ok:CtrWOk Tryz.prog Wry:=addW_ok one_Kyr (addW_ok (thawD_ok (by kernel_rfl) Sha.jrD) (noW_ok _))
theorem ryD (l:Lay) (h:smL l) (hc:l.con.length ≤ 1000000) (hm:l.msk.length ≤ 1000000):DeepTo Tryz.prog 15 [l.v] (.str (dkF l)):=by
 have hd:=rhD l h.ok
 have hh:=(headF_sm l h).2
 refine deepT Tryz.func15 (retE (pinK hd Wry_ok) (ry_1 l (headF l)) (gone (g0 ⟨?_,_,_,_,rfl,rfl⟩)))
 repeat' (first | exact all_nil | refine fm ?_ ?_)
 all_goals first
  | exact (rsL_tlD _).symm
  | exact (rsL_len _).symm
  | exact hc
  | exact hm
  | exact j3_len _ _ _ hh
  | exact rfl
  | decide
theorem isD_inj {a b:List Int} (h:isD a=isD b):a=b:=by
 have:=congrArg intL h
 rwa [intL_isD,intL_isD] at this
theorem ptD_inj:∀ {a b:List (Int × Int)},ptD a=ptD b→a=b
 | [],[],_=>rfl
 | [],q :: b,h=>by cases h
 | p :: a,[],h=>by cases h
 | p :: a,q :: b,h=>by
   have h:D.int .i64 p.1 :: D.int .i64 p.2 :: ptD a=D.int .i64 q.1 :: D.int .i64 q.2 :: ptD b:=h
   simp only [List.cons.injEq,D.int.injEq,true_and] at h
   obtain ⟨h1,h2,h3⟩:=h
   rw [ptD_inj h3]
   obtain ⟨x,y⟩:=p
   obtain ⟨z,w⟩:=q
   simp only at h1 h2
   rw [h1,h2]
theorem headF_inj {a b:Lay} (h:a.v=b.v):headF a=headF b:=by
 have h:=V.agg.inj h
 obtain ⟨a0,a1,a2,a3,a4,a5,a6,⟨p1,p2,p3,p4,p5,p6,p7⟩,a8,a9,aa,⟨f1,f2,f3,f4,f5,f6⟩,⟨c1,c2,c3,c4⟩,ad,ae,af,ag⟩:=a
 obtain ⟨b0,b1,b2,b3,b4,b5,b6,⟨q1,q2,q3,q4,q5,q6,q7⟩,b8,b9,ba,⟨g1,g2,g3,g4,g5,g6⟩,⟨d1,d2,d3,d4⟩,bd,be,bf,bg⟩:=b
 simp only [Lay.cs,P7.cs,FL.cs,C4.cs,List.cons_append,List.nil_append,List.cons.injEq,V.int.injEq,V.str.injEq,V.bool.injEq,V.lst.injEq,true_and,and_true] at h
 obtain ⟨rfl,rfl,rfl,rfl,rfl,rfl,rfl,rfl,rfl,rfl,rfl,rfl,rfl,rfl,rfl,⟨_,h1⟩,rfl,rfl,rfl,⟨_,h2⟩,rfl,rfl,⟨_,h3⟩,rfl,rfl,rfl,rfl,⟨_,h4⟩,_,rfl,_⟩:=h
 rw [isD_inj h1,isD_inj h2,isD_inj h3,ptD_inj h4]
 rfl
theorem hdG_eq {l:Lay} (h:okL l):hdG [l.v]=headF l:=by
 have hx:∃ k,okL k∧[l.v]=[k.v]:=⟨l,h,rfl⟩
 unfold hdG
 rw [dif_pos hx]
 exact (headF_inj (List.cons.inj (Classical.choose_spec hx).2).1).symm
abbrev bare (l:Lay):Lay:={ l with con:=[],msk:=[] }
theorem llD {a b:Lay} (ha:okL a) (hb:okL b) (h:headF a=headF b):DeepTo Tryz.prog 16 [(bare a).v,(bare b).v] (.bool true):=by
 have ha':okL (bare a):=⟨ha.nm,ha.kids,ha.ker,ha.cu,ha.pth⟩
 have hb':okL (bare b):=⟨hb.nm,hb.kids,hb.ker,hb.cu,hb.pth⟩
 have e1:=hdG_eq ha'
 have e2:=hdG_eq hb'
 have e3:headF (bare a)=headF (bare b):=h
 have hr:=ll_1 a b
 rw [e1,e2] at hr
 refine deepT Tryz.func16 (retE (anyN_ok (pinK (deepT Tryz.func51 (retE (noW_ok _) rr_1 (gone (g0 ⟨all_nil,_,_,_,rfl,rfl⟩)))) (noW_ok _))) hr (gone (g0 ⟨fm (rhD _ ha') (fm (rhD _ hb') (fm (by rw [e3]; exact beqB_r _) (fm rfl (fm1 rfl)))),_,_,_,rfl,rfl⟩)))
theorem readX (s:List UInt8) (hs:s.length ≤ 1500000):∃ (y:Lay) (e:Int),((okY y∧headF y=s∧e=0) ∨ (y=zLay∧e=11∧∀ l0,okL l0→headF l0 ≠ s))∧DeepTo Tryz.prog 13 [.str s] (.tup [y.v,iX e]):=by
 obtain ⟨v,gv,hT⟩:=readD hs
 rcases gv with ⟨l,h1,h2,rfl⟩ | ⟨rfl,h⟩
 · exact ⟨l,0,.inl ⟨h1,h2,rfl⟩,hT⟩
 · exact ⟨zLay,11,.inr ⟨rfl,rfl,h⟩,hT⟩
theorem vb_pre {a b:Int} {x y:List UInt8} (h:varB a ++ x=varB b ++ y):w64 a=w64 b∧x=y:=by
 obtain ⟨e1,h1⟩:=rdVf_eq (s:=varB a ++ x) (a:=0) (n:=a) (r:=x) rfl
 obtain ⟨e2,h2⟩:=rdVf_eq (s:=varB a ++ x) (a:=0) (n:=b) (r:=y) h
 rw [e1] at e2
 simp only [Prod.mk.injEq,and_true] at e2
 refine ⟨e2.1,?_⟩
 rw [← h1,← h2,e2.2]
theorem len_pre {m n:Nat} {x y:List UInt8} (hm:m ≤ 2000000) (hn:n ≤ 2000000) (h:varB (Int.ofNat m) ++ x=varB (Int.ofNat n) ++ y):m=n∧x=y:=by
 obtain ⟨h1,h2⟩:=vb_pre h
 have e1:w64 (Int.ofNat m)=(m:Int):=wrap_id (by rw [hOn]; omega) (by rw [hOn]; omega)
 have e2:w64 (Int.ofNat n)=(n:Int):=wrap_id (by rw [hOn]; omega) (by rw [hOn]; omega)
 rw [e1,e2] at h1
 exact ⟨by omega,h2⟩
theorem nums_pre:∀ {a b:List Int} {x y:List UInt8},a.length=b.length→numsB a ++ x=numsB b ++ y→x=y
 | [],[],_,_,_,h=>h
 | [],_ :: _,_,_,hl,_=>by cases hl
 | _ :: _,[],_,_,hl,_=>by cases hl
 | n :: a,m :: b,x,y,hl,h=>by
   have h:varB n ++ numsB a ++ x=varB m ++ numsB b ++ y:=h
   rw [List.append_assoc,List.append_assoc] at h
   exact nums_pre (by simpa using hl) (vb_pre h).2
theorem pts_pre:∀ {a b:List (Int × Int)} {x y:List UInt8},a.length=b.length→ptsB a ++ x=ptsB b ++ y→x=y
 | [],[],_,_,_,h=>h
 | [],_ :: _,_,_,hl,_=>by cases hl
 | _ :: _,[],_,_,hl,_=>by cases hl
 | n :: a,m :: b,x,y,hl,h=>by
   have h:varB n.1 ++ varB n.2 ++ ptsB a ++ x=varB m.1 ++ varB m.2 ++ ptsB b ++ y:=h
   simp only [List.append_assoc] at h
   exact pts_pre (by simpa using hl) (vb_pre (vb_pre h).2).2
theorem lst_pre {a b:List Int} {x y:List UInt8} (ha:a.length ≤ 2000000) (hb:b.length ≤ 2000000) (h:varB (Int.ofNat a.length) ++ (numsB a ++ x)=varB (Int.ofNat b.length) ++ (numsB b ++ y)):x=y:=by
 obtain ⟨h1,h2⟩:=len_pre ha hb h
 exact nums_pre h1 h2
theorem headF_pre {a b:Lay} {x y:List UInt8} (ha:okL a) (hb:okL b) (h:headF a ++ x=headF b ++ y):x=y:=by
 rw [headF_T,headF_T] at h
 unfold T2 T3 T5 T6 T7 T8 T9 T10 T11 T12 T13 T14 T15 textB at h
 simp only [List.append_assoc] at h
 have h:=(vb_pre (vb_pre h).2).2
 obtain ⟨h1,h⟩:=len_pre ha.nm hb.nm h
 have h:=(List.append_inj h h1).2
 have h:=(List.append_inj h (by rfl)).2
 have h:=(vb_pre (vb_pre h).2).2
 have h:=(vb_pre (vb_pre (vb_pre (vb_pre (vb_pre (vb_pre (vb_pre h).2).2).2).2).2).2).2
 have h:=(vb_pre h).2
 have h:=lst_pre ha.kids hb.kids h
 have h:=(vb_pre (vb_pre (vb_pre h).2).2).2
 have h:=lst_pre ha.ker hb.ker h
 have h:=(vb_pre (vb_pre h).2).2
 have h:=lst_pre ha.cu hb.cu h
 have h:=(List.append_inj h (by rfl)).2
 obtain ⟨h1,h⟩:=len_pre ha.pth hb.pth h
 exact pts_pre h1 h
end Go.Proofs.YtmjggdmekboefaaGreatDoor
namespace Go.Proofs.YtmjggdmekboefaaGreatDoor
open Go Go.Eng
set_option maxRecDepth 100000
open Sha (gS gR hSR)
noncomputable abbrev cdLh:Code:=bodyOf Tryz.f4
noncomputable abbrev tlLh:Code:=tailN 3 cdLh
open Classical in
noncomputable def rdG (s:List V):Lay × Int:=if h:∃ p:List UInt8 × Lay × Int,s=[.str p.1]∧((okY p.2.1∧headF p.2.1=p.1∧p.2.2=0) ∨ (p.2.1=zLay∧p.2.2=11∧∀ l0,okL l0→headF l0 ≠ p.1))∧DeepTo Tryz.prog 13 [.str p.1] (.tup [p.2.1.v,iX p.2.2]) then (Classical.choose h).2 else (zLay,0)
noncomputable abbrev rdv (s:List V):V:=.tup [(bare (rdG s).1).v,iX (rdG s).2]
def hLk (a b:Lay):Tr O:=hL [(0,.ints .u32 gS),(1,.ints .u32 gR),(3,.cells (a.cs ++ b.cs))]
def sLh (n:Int) (a b:Lay) (r:List (Nat × V)):St:=stG ([(2,iX n),(7,.bool true),(8,.ptr (some (3,0)))] ++ r) (hLk a b) 4
theorem lh_1 (raw a b:Lay) (s:S8) (n:Int):∃ L,RunIs Tryz.prog (csH (pinN 11 [raw.v] a.v (pinN 6 [.agg s.cs] b.v (memoW [(5,[],.bool true)]))) []) [] 1000 3 Tryz.f4 [2,7,8] (headN 3 cdLh) (startSt [raw.v,.agg s.cs,iX n] (hSR gS gR) 3) L
  [([],
   [(pinA [raw.v]),(pinA [.agg s.cs])],
   .to .normal (sLh n a b []))]
 :=RunIs.of (by kernel_rfl) (by kernel_rfl) (by kernel_rfl)
theorem lh_2 (a b:Lay) (n:Int):∃ L,RunIs Tryz.prog (csH noW []) [] 1000 3 Tryz.f4 [2,7,8,9] (seqL (seqL tlLh)) (sLh n a b []) L
  [([],
   [],
   .to .normal (sLh n a b [(9,iW 0)]))]
 :=RunIs.of (by kernel_rfl) (by kernel_rfl) (by kernel_rfl)
noncomputable abbrev Wlh (l:Lay) (h kk:List UInt8) (n:Int) (k:Nat):CtrW:=pinN 12 [l.v] (.str h) (anyN 13 rdv (pinN 14 [iX n,iW h.length] (iW k) (pinN 9 [l.v] (.str h) (pinB 7 [l.v] (.str kk) (pinN 15 [l.v] (.str kk) (anyN 16 (fun _=>.bool true) noW))))))
abbrev Hlh (i:Nat):List (Nat × Fix):=[(65,.give (.bool false)),(75,.give (.bool false)),(79,.give (.bool false)),(89,.give (.bool false)),(93,.give (.bool false)),(27,.give (iW i))]
abbrev rdC2 (s:List UInt8):Prop:=DeepTo Tryz.prog 13 [.str s] (rdv [.str s])
abbrev lhA (l:Lay) (n:Int) (h kk:List UInt8) (k:Nat) (i:Int) (j:Nat) (v:V):List Prop:=
 [(0:Int) ≤ i∧i < (2:Int),pinA [l.v],rdC2 h,(0:Int) ≤ i∧i < (2:Int),pinA [iX n,iW h.length],(0:Int) ≤ Int.ofNat k∧Int.ofNat k ≤ Int.ofNat h.length,rdC2 (List.drop 0 (List.take k h)),h.length+1 ≤ 9223372036854775807,rdC2 (h ++ [120]),(0:Int) ≤ i∧i < (2:Int),pinA [l.v],V.bool (!beqB h h)=V.bool false,(0:Int) ≤ i∧i < (2:Int),pinA [l.v],gS=gS,gR=gR,(0:Int) ≤ i∧i < (2:Int),pinA [l.v],V.bool (!beqB kk kk)=V.bool false,
  V.bool ((rdG [.str h]).2 != (0:Int))=V.bool false,DeepTo Tryz.prog 16 [(bare (rdG [.str h]).1).v,(bare l).v] (.bool true),V.bool ((rdG [.str (List.drop 0 (List.take k h))]).2 != (11:Int))=V.bool false,V.bool ((rdG [.str (h ++ [120])]).2 != (11:Int))=V.bool false,
  DeepTo Tryz.prog 16 [(bare (rdG [.str (List.drop 0 (List.take k h))]).1).v,zLay.v] (.bool true),DeepTo Tryz.prog 16 [(bare (rdG [.str (h ++ [120])]).1).v,zLay.v] (.bool true),V.int .i64 (Int.ofNat j)=v]
theorem lh_3 (a b:Lay) (n:Int) (h kk:List UInt8) (k:Nat):RunE (csH (Wlh a h kk n k) []) (Hlh 1) 3 Tryz.f4 [2,7,8,9] (inner (inner (seqR (seqL tlLh)))) (sLh n a b [(9,iW 0)]) [([],lhA a n h kk k 0 1 (iW 1),.to .normal (sLh n a b [(9,iW 1)]))]:=RunIs.of (by kernel_rfl) (by kernel_rfl) (by kernel_rfl)
theorem lh_4 (a b:Lay) (n:Int) (h kk:List UInt8) (k:Nat):RunE (csH (Wlh b h kk n k) []) (Hlh 2) 3 Tryz.f4 [2,7,8,9] (inner (inner (seqR (seqL tlLh)))) (sLh n a b [(9,iW 1)]) [([],lhA b n h kk k 1 2 (iW 2),.to .normal (sLh n a b [(9,iW 2)]))]:=RunIs.of (by kernel_rfl) (by kernel_rfl) (by kernel_rfl)
theorem lh_5 (a b:Lay) (n:Int):∃ L,RunIs Tryz.prog (csH noW []) [] 1000 3 Tryz.f4 [2,7,8,9] (inner (inner (seqR (seqL tlLh)))) (sLh n a b [(9,iW 2)]) L
  [([],
   [],
   .to (.exit 0) (sLh n a b [(9,iW 2)]))]
 :=RunIs.of (by kernel_rfl) (by kernel_rfl) (by kernel_rfl)
theorem lh_6 (a b:Lay) (n:Int):∃ L,RunIs Tryz.prog (csH noW []) [] 1000 3 Tryz.f4 [] (seqR tlLh) (sLh n a b [(9,iW 2)]) L
  [([],
   [],
   .ret (.bool true) (hL [(0,.ints .u32 gS),(1,.ints .u32 gR)]) 3)]
 :=RunIs.of (by kernel_rfl) (by kernel_rfl) (by kernel_rfl)
end Go.Proofs.YtmjggdmekboefaaGreatDoor
