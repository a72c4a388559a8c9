/- The Chunk laws: a store in memory, under names of our own; contracts of its methods. No conditions. -/
import Derived.Test.YtfihojpgobmmdaaGreatDoorJointSix
import Derived.Test.YtfihojpgobmmdaaGreatDoorJointSeven
set_option linter.unusedVariables false
set_option linter.unusedSimpArgs false
set_option linter.unusedSectionVars false
namespace Go.Proofs.YtfihojpgobmmdaaGreatDoor
open Go Go.Eng
theorem muOf_first:∀ (l:List (Option Nat)) (j0 m i:Nat),l.getD i none=some m→(∀ i',i' < i→l.getD i' none ≠ some m)→muOf l j0 m=some (j0+i)
 | [],_,_,i,h,_=>by simp at h
 | x :: l,j0,m,0,h,_=>by
   have h:x=some m:=by simpa using h
   subst h
   simp only [muOf,Nat.beq_refl]; rfl
 | x :: l,j0,m,i+1,h,hne=>by
   have ih:=muOf_first l (j0+1) m i (by simpa using h) (fun i' hi=>by have:=hne (i'+1) (by omega); simpa using this)
   have h0:=hne 0 (by omega)
   have e:j0+1+i=j0+(i+1):=by omega
   cases x with
   | none=>simp only [muOf,ih,e]
   | some k=>
     have:Nat.beq k m=false:=by
      cases q:Nat.beq k m with
      | false=>rfl
      | true=>exact absurd (by simp [Nat.eq_of_beq_eq_true q]) h0
     simp only [muOf,this,ih,e]
theorem mu_nodup {ns:List (Option Nat)} (hn:nodupN ns=true) {j m:Nat} (h:ns.getD j none=some m):mu ns m=some j:=by
 have:=muOf_first ns 0 m j h fun i hi q=>by have:=nodupN_spec hn i j m q h; omega
 simpa using this
structure Sto where
 lo:Option (Nat × Nat × List UInt8)
 fl:Int
 nx:Int
 off:Bool
 arm:Bool
 lf:Int
 es:List (D × D)
 rs:List (D × D)
def lgV (g:Nat):Option (Nat × Nat × List UInt8)→V
 | none=>.slc none 0 0 0
 | some (len,cap,_)=>.slc (some (g,0)) len cap 1
def stoC (g c r:Nat) (p:Sto):List V:=[lgV g p.lo,.int .i64 p.fl,.map (some c),.map (some r),.int .i64 p.nx,.bool p.off,.bool p.arm,.int .i64 p.lf]
def memL (p:Sto):List (Nat × O):=match p.lo with
 | none=>[(0,.ints .u32 gS),(1,.ints .u32 gR),(3,.cells (stoC 4 5 6 p)),(5,.mapD none p.es),(6,.mapD none p.rs)]
 | some (_,_,b)=>[(0,.ints .u32 gS),(1,.ints .u32 gR),(3,.cells (stoC 4 5 6 p)),(4,.buf 5 false b),(5,.mapD none p.es),(6,.mapD none p.rs)]
def memS (p:Sto):Tr O:=hL (memL p)
def stoAt (h:Tr O) (m:Nat):Option (List (Option Nat) × Sto):=match h.get m with
 | some (.cells [lg,.int .i64 fl,.map (some c),.map (some r),.int .i64 nx,.bool off,.bool arm,.int .i64 lf])=>match h.get c,h.get r with
   | some (.mapD none es),some (.mapD none rs)=>match lg with
     | .slc none 0 0 0=>some ([some 0,some 1,some 2,some m,none,some c,some r],⟨none,fl,nx,off,arm,lf,es,rs⟩)
     | .slc (some (g,0)) len cap 1=>match h.get g with
       | some (.buf 5 false b)=>some ([some 0,some 1,some 2,some m,some g,some c,some r],⟨some (len,cap,b),fl,nx,off,arm,lf,es,rs⟩)
       | _=>none
     | _=>none
   | _,_=>none
 | _=>none
def okN (ns:List (Option Nat)):Bool:=nodupN ns && ns.all fun x=>match x with | some m=>Nat.blt m top | none=>true
theorem stoAt_spec {h:Tr O} {m:Nat} {ns:List (Option Nat)} {p:Sto} (e:stoAt h m=some (ns,p)):∃ g c r,h.get m=some (.cells (stoC g c r p))∧h.get c=some (.mapD none p.es)∧h.get r=some (.mapD none p.rs)∧
  ((p.lo=none∧ns=[some 0,some 1,some 2,some m,none,some c,some r]) ∨ ∃ len cap b,p.lo=some (len,cap,b)∧h.get g=some (.buf 5 false b)∧ns=[some 0,some 1,some 2,some m,some g,some c,some r]):=by
 unfold stoAt at e
 split at e
 case h_2=>cases e
 rename_i lg fl c r nx off arm lf hm
 split at e
 case h_2=>cases e
 rename_i es rs hc hr
 split at e
 · simp only [Option.some.injEq,Prod.mk.injEq] at e; obtain ⟨rfl,rfl⟩:=e
   exact ⟨0,c,r,hm,hc,hr,.inl ⟨rfl,rfl⟩⟩
 · rename_i g len cap
   split at e
   · rename_i b hg
     simp only [Option.some.injEq,Prod.mk.injEq] at e; obtain ⟨rfl,rfl⟩:=e
     exact ⟨g,c,r,hm,hc,hr,.inr ⟨len,cap,b,rfl,hg,rfl⟩⟩
   · cases e
 · cases e
theorem sto_pick {h:Tr O} {m:Nat} {ns:List (Option Nat)} {p:Sto} (e:stoAt h m=some (ns,p)) (ht:tabs h=some (gS,gR)) (hn:okN ns=true):PickOk ns h (memS p)∧ns.length=7∧∀ j k,ns.getD j none=some k→k < top:=by
 obtain ⟨g,c,r,hm,hc,hr,hcase⟩:=stoAt_spec e
 obtain ⟨h0,h1⟩:=tabs_some ht
 simp only [okN,Bool.and_eq_true] at hn
 obtain ⟨hnd,hall⟩:=hn
 have htop:∀ j k,ns.getD j none=some k→k < top:=by
  intro j k hk
  have hmem:some k ∈ ns:=by
   rw [List.getD_eq_getElem?_getD] at hk
   cases hx:ns[j]? with
   | none=>rw [hx] at hk; cases hk
   | some x=>rw [hx] at hk; simp only [Option.getD_some] at hk; subst hk; exact List.mem_of_getElem? hx
  exact Nat.le_of_ble_eq_true (List.all_eq_true.1 hall _ hmem)
 have hglob:ns.getD 0 none=some 0∧ns.getD 1 none=some 1∧ns.getD 2 none=some 2∧ns.getD 3 none=some m∧ns.getD 5 none=some c∧ns.getD 6 none=some r∧ns.length=7:=by
  rcases hcase with ⟨_,rfl⟩ | ⟨_,_,_,_,_,rfl⟩ <;> exact ⟨rfl,rfl,rfl,rfl,rfl,rfl,rfl⟩
 obtain ⟨g0,g1,g2,g3,g5,g6,hlen⟩:=hglob
 have mc:=mu_nodup hnd g5
 have mr:=mu_nodup hnd g6
 have hgl:∀ q ∈ gtab,ns.getD q.2 none=some q.2:=by
  intro q hq
  simp only [gtab,List.mem_cons,List.not_mem_nil,or_false] at hq
  rcases hq with rfl | rfl | rfl
  · exact g0
  · exact g1
  · exact g2
 have hgt:∀ q,q < 3→∃ z ∈ gtab,z.2=q:=by
  intro q hq
  rcases q with _ | _ | _ | q
  · exact ⟨(0,0),by simp [gtab],rfl⟩
  · exact ⟨(1,1),by simp [gtab],rfl⟩
  · exact ⟨(2,2),by simp [gtab],rfl⟩
  · omega
 refine ⟨?_,hlen,htop⟩
 rcases hcase with ⟨hlo,hns⟩ | ⟨len,cap,b,hlo,hg,hns⟩
 · unfold memS memL
   rw [hlo]
   refine pick_list (fun q hq=>?_) hgl hnd (fun j k hj=>?_) ?_
   · simp only [List.mem_cons,List.not_mem_nil,or_false] at hq
     rcases hq with rfl | rfl | rfl | rfl | rfl <;> exact Nat.le_of_ble_eq_true rfl
   · rw [hns] at hj
     match j,hj with
     | 0,hj=>cases hj; exact .inl (hgt 0 (by omega))
     | 1,hj=>cases hj; exact .inl (hgt 1 (by omega))
     | 2,hj=>cases hj; exact .inl (hgt 2 (by omega))
     | 3,hj=>cases hj; exact .inr (by rw [hm]; simp)
     | 4,hj=>cases hj
     | 5,hj=>cases hj; exact .inr (by rw [hc]; simp)
     | 6,hj=>cases hj; exact .inr (by rw [hr]; simp)
     | j+7,hj=>simp at hj
   · intro q hq
     simp only [List.mem_cons,List.not_mem_nil,or_false] at hq
     rcases hq with rfl | rfl | rfl | rfl | rfl
     · exact ⟨_,_,g0,h0,rfl⟩
     · exact ⟨_,_,g1,h1,rfl⟩
     · refine ⟨_,_,g3,hm,?_⟩
       simp only [stoC,hlo,lgV,O.rn,V.rns,V.rn,mc,mr]
     · exact ⟨_,_,g5,hc,rfl⟩
     · exact ⟨_,_,g6,hr,rfl⟩
 · have g4:ns.getD 4 none=some g:=by rw [hns]; rfl
   have mg:=mu_nodup hnd g4
   unfold memS memL
   rw [hlo]
   refine pick_list (fun q hq=>?_) hgl hnd (fun j k hj=>?_) ?_
   · simp only [List.mem_cons,List.not_mem_nil,or_false] at hq
     rcases hq with rfl | rfl | rfl | rfl | rfl | rfl <;> exact Nat.le_of_ble_eq_true rfl
   · rw [hns] at hj
     match j,hj with
     | 0,hj=>cases hj; exact .inl (hgt 0 (by omega))
     | 1,hj=>cases hj; exact .inl (hgt 1 (by omega))
     | 2,hj=>cases hj; exact .inl (hgt 2 (by omega))
     | 3,hj=>cases hj; exact .inr (by rw [hm]; simp)
     | 4,hj=>cases hj; exact .inr (by rw [hg]; simp)
     | 5,hj=>cases hj; exact .inr (by rw [hc]; simp)
     | 6,hj=>cases hj; exact .inr (by rw [hr]; simp)
     | j+7,hj=>simp at hj
   · intro q hq
     simp only [List.mem_cons,List.not_mem_nil,or_false] at hq
     rcases hq with rfl | rfl | rfl | rfl | rfl | rfl
     · exact ⟨_,_,g0,h0,rfl⟩
     · exact ⟨_,_,g1,h1,rfl⟩
     · refine ⟨_,_,g3,hm,?_⟩
       simp only [stoC,hlo,lgV,O.rn,V.rns,V.rn,mc,mr,mg]
     · exact ⟨_,_,g4,hg,rfl⟩
     · exact ⟨_,_,g5,hc,rfl⟩
     · exact ⟨_,_,g6,hr,rfl⟩
abbrev SpecS:=Sto→List V→Option (List Prop × V × Tr O × Nat)
def stoW (sp:SpecS):List V→Tr O→Nat→Option (List Prop × V × Tr O × Nat):=fun args h n=>match args with
 | .ptr (some (m,0)) :: _=>match tabs h,stoAt h m with
   | some (st,rd),some (ns,p)=>match okN ns,V.rns (mu ns) args with
     | true,some args1=>match sp p args1 with
       | some (A,v1,h1,n1)=>match embW ns (memS p) (v1,h1,n1) h n with
         | some (v,h2,n2)=>some ((st=gS) :: (rd=gR) :: A,v,h2,n2)
         | none=>none
       | none=>none
     | _,_=>none
   | _,_=>none
 | _=>none
theorem stoW_ok {f:FuncId} {fn:Func} {code:Code} {sp:SpecS} (hlt:f < Tryz.prog.funcs.size) (hf:Tryz.prog.funcs[f]? =some fn) (hb:fn.body=some code)
  (hT:∀ p args A v1 h1 n1,sp p args=some (A,v1,h1,n1)→(∀ a ∈ A,a)→(Nat.ble args.length fn.ntmps && Nat.blt fn.ntmps top)=true∧TG Tryz.prog 7 fn.ntmps code (startSt args (memS p) 7) (RetG Tryz.prog 7 fn fun a b c=>a=v1∧b=h1∧c=n1)):OneW Tryz.prog f (stoW sp):=by
 refine ⟨hlt,fun args h n A v h2 n2 e hA E w args' ra g hd hc=>?_⟩
 unfold stoW at e
 split at e
 case h_2=>cases e
 rename_i m rest
 split at e
 case h_2=>cases e
 rename_i st rd ns p ht hs
 split at e
 case h_2=>cases e
 rename_i args1 hok hrn
 split at e
 case h_2=>cases e
 rename_i A1 v1 h1 n1 hsp
 split at e
 case h_2=>cases e
 rename_i v2 h3 n3 hem
 simp only [Option.some.injEq,Prod.mk.injEq] at e
 obtain ⟨rfl,rfl,rfl,rfl⟩:=e
 have e1:st=gS:=hA _ (by simp)
 have e2:rd=gR:=hA _ (by simp)
 subst e1 e2
 obtain ⟨hp,hlen,_⟩:=sto_pick hs ht hok
 obtain ⟨l,hTG⟩:=hT p args1 A1 v1 h1 n1 hsp fun a ha=>hA a (by simp [ha])
 exact own_calls mo po hf hb l hp hrn hem (by rw [hlen]; exact hTG) ra g hd
end Go.Proofs.YtfihojpgobmmdaaGreatDoor
namespace Go.Proofs.YtfihojpgobmmdaaGreatDoor
open Go Go.Eng
theorem cl_1:∃ L,RunIs Tryz.prog cs12 [] 1000 3 Tryz.f63 [] (bodyOf Tryz.f63) (startSt [.slc none 0 0 0] .nil 3) L
  [([],
   [],
   .ret (.slc none 0 0 0) (hL []) 3)]
 :=RunIs.of (by kernel_rfl) (by kernel_rfl) (by kernel_rfl)
theorem cl_2 (n:Nat) (cs:List D):∃ L,RunIs Tryz.prog cs12 [] 1000 3 Tryz.f63 [] (bodyOf Tryz.f63) (startSt [.lst false n cs] .nil 3) L
  [([],
   [(0 < n),(cs.length=n * 1),(roomy (0+n) 1 16=true)],
   .ret (.slc (some (3,0)) (0+n) (0+n) 1) (hL [(3,.deep ([] ++ cs))]) 4)]
 :=RunIs.of (by kernel_rfl) (by kernel_rfl) (by kernel_rfl)
theorem cl_3 (n:Nat) (cs:List D):∃ L,RunIs Tryz.prog cs12 [] 1000 3 Tryz.f63 [] (bodyOf Tryz.f63) (startSt [.lst true n cs] .nil 3) L
  [([],
   [(0 < n),(cs.length=n * 1),(roomy (0+n) 1 16=true)],
   .ret (.slc (some (3,0)) (0+n) (0+n) 1) (hL [(3,.deep ([] ++ cs))]) 4)]
 :=RunIs.of (by kernel_rfl) (by kernel_rfl) (by kernel_rfl)
end Go.Proofs.YtfihojpgobmmdaaGreatDoor
namespace Go.Proofs.YtfihojpgobmmdaaGreatDoor
open Go Go.Eng
def specCl:List V→Option (List Prop × V)
 | [.slc none 0 0 0]=>some ([],.slc none 0 0 0)
 | [.lst _ n cs]=>some ([0 < n,cs.length=n,n ≤ 1000000],.lst false n cs)
 | _=>none
theorem cl_fz (n:Nat) (cs:List D) (h0:cs.length=n):FzTo (.lst false n cs) (.slc (some (3,0)) (0+n) (0+n) 1) (hL [(3,.deep ([] ++ cs))]) 4:=by
 refine ⟨[[3]],[([] ++ cs).length=(0+n) * 1],{ fr:=Tr.nil.set 0 (some (.lst false (0+n) ([] ++ cs))),h:=(hL [(3,.deep ([] ++ cs))]).set 3 none,n:=4,dfs:=[] },by kernel_rfl,fun a ha=>?_,?_⟩
 · rw [List.mem_singleton] at ha; subst ha
   rw [List.nil_append]; omega
 · have e:0+n=n:=Nat.zero_add n
   rw [e]; rfl
theorem one_Cl:OneW Tryz.prog 63 (deepW specCl):=by
 refine deepW_ok (Nat.le_of_ble_eq_true (by kernel_rfl)) fun args A v e hA=>?_
 unfold specCl at e
 split at e
 · simp only [Option.some.injEq,Prod.mk.injEq] at e; obtain ⟨rfl,rfl⟩:=e
   obtain ⟨L,hr⟩:=cl_1
   exact deep_calls mo po Tryz.func63 (by kernel_rfl) (by kernel_rfl) rfl rfl (TG_mono (TG_one X12 mo (by kernel_rfl) (by
    have:L=[]:=by
     have h2:=hr
     unfold RunIs at h2
     have h3:runA Tryz.prog cs12 [] 1000 3 Tryz.f63 [] (bodyOf Tryz.f63) (startSt [.slc none 0 0 0] .nil 3)=some ([],[],[([],[],.ret (.slc none 0 0 0) (hL []) 3)]):=by kernel_rfl
     rw [h3] at h2
     simp only [Option.some.injEq,Prod.mk.injEq] at h2
     exact h2.1.symm
    subst this
    exact hr) all_nil) fun y s h=>RetG_self h)
 · rename_i f n cs
   simp only [Option.some.injEq,Prod.mk.injEq] at e; obtain ⟨rfl,rfl⟩:=e
   have h0:0 < n:=hA _ (by simp)
   have h1:cs.length=n:=hA (cs.length=n) (by simp)
   have h2:n ≤ 1000000:=hA (n ≤ 1000000) (by simp)
   have key:∀ f,TG Tryz.prog gN Tryz.f63.ntmps (bodyOf Tryz.f63) (startSt [.lst f n cs] .nil gN) (RetG Tryz.prog gN Tryz.f63 (FzTo (.lst false n cs))):=by
    intro f
    cases f with
    | false=>
      obtain ⟨L,hr⟩:=cl_2 n cs
      refine TG_ret X12 mo _ (by kernel_rfl) hr fun g hg _=>?_
      rw [List.mem_singleton] at hg; subst hg
      refine ⟨?_,_,_,_,rfl,cl_fz n cs h1⟩
      repeat' (first | exact all_nil | refine List.forall_mem_cons.2 ⟨?_,?_⟩)
      · exact h0
      · omega
      · exact roomy16 (by omega)
    | true=>
      obtain ⟨L,hr⟩:=cl_3 n cs
      refine TG_ret X12 mo _ (by kernel_rfl) hr fun g hg _=>?_
      rw [List.mem_singleton] at hg; subst hg
      refine ⟨?_,_,_,_,rfl,cl_fz n cs h1⟩
      repeat' (first | exact all_nil | refine List.forall_mem_cons.2 ⟨?_,?_⟩)
      · exact h0
      · omega
      · exact roomy16 (by omega)
   exact deep_calls mo po Tryz.func63 (by kernel_rfl) (by kernel_rfl) rfl rfl (key f)
 · cases e
noncomputable abbrev W13:CtrW:=addW 63 (deepW specCl) W12
theorem W13_ok:CtrWOk Tryz.prog W13:=addW_ok one_Cl W12_ok
noncomputable abbrev cs13:CallS:=callX Tryz.prog W13 H0 1000 40
noncomputable abbrev X13:CX Tryz.prog:=CX.of mo po W13_ok H0 1000 40
def hints (l:List (Nat × List (Nat × Fix))) (f:FuncId):List (Nat × Fix):=match l with
 | []=>[]
 | x :: r=>match Nat.beq x.1 f with
   | true=>x.2
   | false=>hints r f
noncomputable abbrev csP (l:List (Nat × List (Nat × Fix))):CallS:=callX Tryz.prog W13 (hints l) 1000 40
noncomputable abbrev XP (l:List (Nat × List (Nat × Fix))):CX Tryz.prog:=CX.of mo po W13_ok (hints l) 1000 40
def entD (d:List UInt8) (rs:List (List UInt8)) (k:Int):D:=.agg [.str d,.lst rs.length (strs rs),.int .i64 k]
def entV (d:List UInt8) (rs:List (List UInt8)) (k:Int):V:=.agg [.str d,.lst false rs.length (strs rs),.int .i64 k]
def entZ:V:=.agg [.str [],.slc none 0 0 0,.int .i64 0]
end Go.Proofs.YtfihojpgobmmdaaGreatDoor
namespace Go.Proofs.YtfihojpgobmmdaaGreatDoor
open Go Go.Eng
noncomputable abbrev cdIx:Code:=bodyOf Tryz.f73
noncomputable abbrev tlIx:Code:=tailN 1 cdIx
noncomputable abbrev lpIx:Code:=seqL tlIx
noncomputable abbrev enIx:Code:=seqR tlIx
noncomputable abbrev cdCF:Code:=bodyOf Tryz.f43
def memB (p:Sto):Tr O:=hL (memL p ++ [(7,.cells [.ptr (some (3,0))])])
def pL (lo:Option (Nat × Nat × List UInt8)) (fl nx lf:Int) (es rs:List (D × D)):Sto:=⟨lo,fl,nx,false,false,lf,es,rs⟩
def f41:V:=.fn (.func 41) [] []
def f44:V:=.fn (.func 44) [] [.ptr (some (7,0))]
def sIx (h:Tr O) (n0:Nat) (gv:V) (f:Bool) (rs:List (List UInt8)) (i:Nat):St:=stG [(0,.lst f rs.length (strs rs)),(1,gv),(7,.int .i64 (Int.ofNat rs.length)),(8,.int .i64 (Int.ofNat i))] h n0
def sIa (h:Tr O) (n0:Nat) (gv:V) (f:Bool) (rs:List (List UInt8)):St:=stG [(0,.lst f rs.length (strs rs)),(1,gv)] h n0
theorem ix_1 (f:Bool) (rs:List (List UInt8)):∃ L,RunIs Tryz.prog cs13 [(8,.give (.int .i64 (Int.ofNat 0)))] 1000 3 Tryz.f73 [0,1,7,8] (seqL lpIx) (sIa (hL []) 3 f41 f rs) L
  [([],
   [(V.int IntKind.i64 (0:Int)=V.int IntKind.i64 (0:Int))],
   .to .normal (stG [(0,.lst (f) (rs.length) (strs rs)),(1,.fn (.func 41) [] []),(7,.int .i64 ((Int.ofNat rs.length))),(8,.int .i64 0)] (hL []) 3))]
 :=RunIs.of (by kernel_rfl) (by kernel_rfl) (by kernel_rfl)
theorem ix_2 (f:Bool) (rs:List (List UInt8)) (x:List UInt8) (i:Nat):∃ L,RunIs Tryz.prog cs13 [(9,.split),(14,.give (.fptr [.str x])),(16,.split),(18,.give (.int .i64 (Int.ofNat (i+1))))] 1000 3 Tryz.f73 [0,1,7,8] (inner (inner (seqR lpIx))) (sIx (hL []) 3 f41 f rs i) L
  [([((decide (Int.ofNat i < Int.ofNat rs.length)),true),((!(Int.ofNat x.length) == (32:Int)),true)],
   [((0:Int) ≤ Int.ofNat i∧Int.ofNat i < (Int.ofNat rs.length)),((strs rs).length=rs.length * 1),(V.fptr (cellsAt (strs rs) ((Int.ofNat i).toNat * 1) 1)=V.fptr [D.str x])],
   .ret (.int .i64 (Int.ofNat i)) (hL []) 3),
  ([((decide (Int.ofNat i < Int.ofNat rs.length)),true),((!(Int.ofNat x.length) == (32:Int)),false)],
   [((0:Int) ≤ Int.ofNat i∧Int.ofNat i < (Int.ofNat rs.length)),((strs rs).length=rs.length * 1),(V.fptr (cellsAt (strs rs) ((Int.ofNat i).toNat * 1) 1)=V.fptr [D.str x]),(V.int IntKind.i64 (IntKind.i64.wrap (Int.ofNat i+(1:Int)))=V.int IntKind.i64 (Int.ofNat (i+1)))],
   .to .normal (stG [(0,.lst (f) (rs.length) (strs rs)),(1,.fn (.func 41) [] []),(7,.int .i64 (Int.ofNat rs.length)),(8,.int .i64 (Int.ofNat (i+1)))] (hL []) 3)),
  ([((decide (Int.ofNat i < Int.ofNat rs.length)),false)],
   [],
   .to (.exit 0) (stG [(0,.lst (f) (rs.length) (strs rs)),(1,.fn (.func 41) [] []),(7,.int .i64 (Int.ofNat rs.length)),(8,.int .i64 (Int.ofNat i))] (hL []) 3))]
 :=RunIs.of (by kernel_rfl) (by kernel_rfl) (by kernel_rfl)
theorem ix_3 (f:Bool) (rs:List (List UInt8)) (x:List UInt8) (i len cap:Nat) (b d0:List UInt8) (rs0:List (List UInt8)) (k fl nx lf:Int) (es rt:List (D × D)):∃ L,RunIs Tryz.prog (csP [(18,[(15,.give (.tup [entV d0 rs0 k,.bool true]))])]) [(9,.split),(14,.give (.fptr [.str x])),(18,.give (.int .i64 (Int.ofNat (i+1))))] 1000 8 Tryz.f73 [0,1,7,8] (inner (inner (seqR lpIx))) (sIx (memB (pL (some (len,cap,b)) fl nx lf es rt)) 8 f44 f rs i) L
  [([((decide (Int.ofNat i < Int.ofNat rs.length)),true)],
   [((0:Int) ≤ Int.ofNat i∧Int.ofNat i < (Int.ofNat rs.length)),((strs rs).length=rs.length * 1),(V.fptr (cellsAt (strs rs) ((Int.ofNat i).toNat * 1) 1)=V.fptr [D.str x]),((if true=true then V.tup [D.valV (V.agg [V.str ([]:List UInt8),V.slc none 0 0 0,V.int IntKind.i64 (0:Int)]) (lookD (D.str x) (pL (some (len,cap,b)) fl nx lf es rt).es),V.bool (lookD (D.str x) (pL (some (len,cap,b)) fl nx lf es rt).es).isSome] else D.valV (V.agg [V.str ([]:List UInt8),V.slc none 0 0 0,V.int IntKind.i64 (0:Int)]) (lookD (D.str x) (pL (some (len,cap,b)) fl nx lf es rt).es))=V.tup [entV d0 rs0 k,V.bool true]),(V.int IntKind.i64 (IntKind.i64.wrap (Int.ofNat i+(1:Int)))=V.int IntKind.i64 (Int.ofNat (i+1)))],
   .to .normal (stG [(0,.lst (f) (rs.length) (strs rs)),(1,.fn (.func 44) [] [.ptr (some (7,0))]),(7,.int .i64 (Int.ofNat rs.length)),(8,.int .i64 (Int.ofNat (i+1)))] (hL [(0,.ints .u32 gS),(1,.ints .u32 gR),(3,.cells [.slc (some (4,0)) len cap 1,.int .i64 ((pL (some (len,cap,b)) fl nx lf es rt).fl),.map (some 5),.map (some 6),.int .i64 ((pL (some (len,cap,b)) fl nx lf es rt).nx),.bool false,.bool false,.int .i64 ((pL (some (len,cap,b)) fl nx lf es rt).lf)]),(4,.buf 5 false (b)),(5,.mapD none ((pL (some (len,cap,b)) fl nx lf es rt).es)),(6,.mapD none ((pL (some (len,cap,b)) fl nx lf es rt).rs)),(7,.cells [.ptr (some (3,0))])]) 8)),
  ([((decide (Int.ofNat i < Int.ofNat rs.length)),false)],
   [],
   .to (.exit 0) (stG [(0,.lst (f) (rs.length) (strs rs)),(1,.fn (.func 44) [] [.ptr (some (7,0))]),(7,.int .i64 (Int.ofNat rs.length)),(8,.int .i64 (Int.ofNat i))] (hL [(0,.ints .u32 gS),(1,.ints .u32 gR),(3,.cells [.slc (some (4,0)) len cap 1,.int .i64 ((pL (some (len,cap,b)) fl nx lf es rt).fl),.map (some 5),.map (some 6),.int .i64 ((pL (some (len,cap,b)) fl nx lf es rt).nx),.bool false,.bool false,.int .i64 ((pL (some (len,cap,b)) fl nx lf es rt).lf)]),(4,.buf 5 false (b)),(5,.mapD none ((pL (some (len,cap,b)) fl nx lf es rt).es)),(6,.mapD none ((pL (some (len,cap,b)) fl nx lf es rt).rs)),(7,.cells [.ptr (some (3,0))])]) 8))]
 :=RunIs.of (by kernel_rfl) (by kernel_rfl) (by kernel_rfl)
theorem ix_4 (f:Bool) (rs:List (List UInt8)) (x:List UInt8) (i len cap:Nat) (b:List UInt8) (fl nx lf:Int) (es rt:List (D × D)):∃ L,RunIs Tryz.prog (csP [(18,[(15,.give (.tup [entZ,.bool false]))])]) [(9,.split),(14,.give (.fptr [.str x])),(18,.give (.int .i64 (Int.ofNat (i+1))))] 1000 8 Tryz.f73 [0,1,7,8] (inner (inner (seqR lpIx))) (sIx (memB (pL (some (len,cap,b)) fl nx lf es rt)) 8 f44 f rs i) L
  [([((decide (Int.ofNat i < Int.ofNat rs.length)),true)],
   [((0:Int) ≤ Int.ofNat i∧Int.ofNat i < (Int.ofNat rs.length)),((strs rs).length=rs.length * 1),(V.fptr (cellsAt (strs rs) ((Int.ofNat i).toNat * 1) 1)=V.fptr [D.str x]),((if true=true then V.tup [D.valV (V.agg [V.str ([]:List UInt8),V.slc none 0 0 0,V.int IntKind.i64 (0:Int)]) (lookD (D.str x) (pL (some (len,cap,b)) fl nx lf es rt).es),V.bool (lookD (D.str x) (pL (some (len,cap,b)) fl nx lf es rt).es).isSome] else D.valV (V.agg [V.str ([]:List UInt8),V.slc none 0 0 0,V.int IntKind.i64 (0:Int)]) (lookD (D.str x) (pL (some (len,cap,b)) fl nx lf es rt).es))=V.tup [entZ,V.bool false])],
   .ret (.int .i64 (Int.ofNat i)) (hL [(0,.ints .u32 gS),(1,.ints .u32 gR),(3,.cells [.slc (some (4,0)) len cap 1,.int .i64 ((pL (some (len,cap,b)) fl nx lf es rt).fl),.map (some 5),.map (some 6),.int .i64 ((pL (some (len,cap,b)) fl nx lf es rt).nx),.bool false,.bool false,.int .i64 ((pL (some (len,cap,b)) fl nx lf es rt).lf)]),(4,.buf 5 false (b)),(5,.mapD none ((pL (some (len,cap,b)) fl nx lf es rt).es)),(6,.mapD none ((pL (some (len,cap,b)) fl nx lf es rt).rs)),(7,.cells [.ptr (some (3,0))])]) 8),
  ([((decide (Int.ofNat i < Int.ofNat rs.length)),false)],
   [],
   .to (.exit 0) (stG [(0,.lst (f) (rs.length) (strs rs)),(1,.fn (.func 44) [] [.ptr (some (7,0))]),(7,.int .i64 (Int.ofNat rs.length)),(8,.int .i64 (Int.ofNat i))] (hL [(0,.ints .u32 gS),(1,.ints .u32 gR),(3,.cells [.slc (some (4,0)) len cap 1,.int .i64 ((pL (some (len,cap,b)) fl nx lf es rt).fl),.map (some 5),.map (some 6),.int .i64 ((pL (some (len,cap,b)) fl nx lf es rt).nx),.bool false,.bool false,.int .i64 ((pL (some (len,cap,b)) fl nx lf es rt).lf)]),(4,.buf 5 false (b)),(5,.mapD none ((pL (some (len,cap,b)) fl nx lf es rt).es)),(6,.mapD none ((pL (some (len,cap,b)) fl nx lf es rt).rs)),(7,.cells [.ptr (some (3,0))])]) 8))]
 :=RunIs.of (by kernel_rfl) (by kernel_rfl) (by kernel_rfl)
end Go.Proofs.YtfihojpgobmmdaaGreatDoor
namespace Go.Proofs.YtfihojpgobmmdaaGreatDoor
open Go Go.Eng
theorem callIs_of_TG {f:FuncId} {fn:Func} {code:Code} (hf:Tryz.prog.funcs[f]? =some fn) (hb:fn.body=some code) {args:List V} {h h1:Tr O} {n n1:Nat} {v:V}
  (l:(Nat.ble args.length fn.ntmps && Nat.blt fn.ntmps top)=true) (hT:TG Tryz.prog n fn.ntmps code (startSt args h n) (RetG Tryz.prog n fn fun a b c=>a=v∧b=h1∧c=n1)):CallIs Tryz.prog f args h n v h1 n1:=
 fun _ _ _ ra g hd=>calls_of_TG1 mo po hf hb l v h1 n1 hT ra g hd
noncomputable abbrev rdIx:Code:=inner (inner (seqR lpIx))
theorem tgIxG {n0:Nat} {h:Tr O} {gv:V} {f:Bool} {rs:List (List UInt8)} {R:V→Tr O→Nat→Prop}
  (h0:TG Tryz.prog n0 Tryz.f73.ntmps (seqL lpIx) (sIa h n0 gv f rs) (andThen (fun s'=>normG n0 [0,1,7,8] s'=some (sIx h n0 gv f rs 0)) fun _ _=>False))
  (hr:∀ i x,rs[i]? =some x→TG Tryz.prog n0 Tryz.f73.ntmps rdIx (sIx h n0 gv f rs i) (andThen (fun s'=>normG n0 [0,1,7,8] s'=some (sIx h n0 gv f rs (i+1))) fun _ _=>False))
  (he:TG Tryz.prog n0 Tryz.f73.ntmps rdIx (sIx h n0 gv f rs rs.length) fun y s'=>y= .exit 0∧normG n0 [0,1,7,8] s'=some (sIx h n0 gv f rs rs.length))
  (hz:TG Tryz.prog n0 Tryz.f73.ntmps enIx (sIx h n0 gv f rs rs.length) (RetG Tryz.prog n0 Tryz.f73 R)):TG Tryz.prog n0 Tryz.f73.ntmps tlIx (sIa h n0 gv f rs) (RetG Tryz.prog n0 Tryz.f73 R):=by
 refine TG_seq' (by kernel_rfl) ?_
 refine TG_seq' (by kernel_rfl) ?_
 refine TG_mono h0 fun y s' hs'=>?_
 cases y <;> first | exact hs'.elim | skip
 have hs':normG n0 [0,1,7,8] s'=some (sIx h n0 gv f rs 0):=hs'
 refine TG_block (i:=0) (by kernel_rfl) (TG_mono (Q1:=fun z s'=>z= .exit 0∧normG n0 [0,1,7,8] s'=some (sIx h n0 gv f rs rs.length)) (TG_loop_inv (fun k' s=>∃ i,k'=rs.length - i∧i ≤ rs.length∧normG n0 [0,1,7,8] s=some (sIx h n0 gv f rs i)) (by kernel_rfl) ?_ rs.length ⟨0,rfl,Nat.zero_le _,hs'⟩) ?_)
 · rintro k' s1 ⟨i,hk,hi,hs1⟩
   refine TG_norm hs1 ?_
   rcases Nat.lt_or_ge i rs.length with hlt | hge
   · refine TG_mono (hr i _ (List.getElem?_eq_getElem hlt)) fun y s2 hs2=>?_
     cases y <;> first | exact hs2.elim | skip
     exact ⟨rs.length - (i+1),by omega,i+1,rfl,by omega,hs2⟩
   · obtain rfl:i=rs.length:=by omega
     refine TG_mono he fun y s2 hs2=>?_
     obtain ⟨rfl,hs2⟩:=hs2
     exact ⟨rfl,hs2⟩
 rintro y s2 ⟨rfl,hs2⟩
 rw [outOf_exit]
 simp only [andThen]
 exact TG_norm hs2 hz
theorem ix_end (f:Bool) (rs:List (List UInt8)) (i:Nat):∃ L,RunIs Tryz.prog cs13 [] 1000 3 Tryz.f73 [] enIx (sIx (hL []) 3 f41 f rs i) L [([],[],.ret (.int .i64 (-1)) (hL []) 3)]:=
 RunIs.of (by kernel_rfl) (by kernel_rfl) (by kernel_rfl)
theorem ix_hd (f:Bool) (rs:List (List UInt8)):∃ L,RunIs Tryz.prog cs13 [] 1000 3 Tryz.f73 [0,1] (headN 1 cdIx) (startSt [.lst f rs.length (strs rs),f41] (hL []) 3) L [([],[],.to .normal (sIa (hL []) 3 f41 f rs))]:=
 RunIs.of (by kernel_rfl) (by kernel_rfl) (by kernel_rfl)
theorem tgIx41 (f:Bool) (rs:List (List UInt8)) (hl:rs.length ≤ 1000000) (hg:∀ x ∈ rs,x.length=32):TG Tryz.prog 3 Tryz.f73.ntmps cdIx (startSt [.lst f rs.length (strs rs),f41] (hL []) 3) (RetG Tryz.prog 3 Tryz.f73 fun a b c=>a= .int .i64 (-1)∧b=hL []∧c=3):=by
 have hO:∀ n:Nat,Int.ofNat n=(n:Int):=fun _=>rfl
 obtain ⟨L0,hr0⟩:=ix_hd f rs
 refine TG_isN1 1 X13 mo (by kernel_rfl) hr0 all_nil ?_
 show TG Tryz.prog 3 Tryz.f73.ntmps tlIx _ _
 refine tgIxG ?_ (fun i x hx=>?_) ?_ ?_
 · obtain ⟨L2,hr2⟩:=ix_1 f rs
   refine TG_is X13 mo anyR (by kernel_rfl) hr2 fun g hg _=>?_
   rw [List.mem_singleton] at hg; subst hg
   exact ⟨fun p hp=>by rw [List.mem_singleton] at hp; subst hp; rfl,fun s' hs'=>hs'⟩
 · have hlt:i < rs.length:=(List.getElem?_eq_some_iff.1 hx).1
   have hx32:x.length=32:=hg x (List.mem_of_getElem? hx)
   obtain ⟨L3,hr3⟩:=ix_2 f rs x i
   refine TG_is X13 mo anyR (by kernel_rfl) hr3 fun g hg hc=>?_
   simp only [List.mem_cons,List.not_mem_nil,or_false] at hg
   rcases hg with rfl | rfl | rfl
   · have:=hc _ (List.mem_cons_of_mem _ (List.mem_singleton.2 rfl))
     simp [hx32] at this
   · refine ⟨?_,fun s' hs'=>hs'⟩
     repeat' (first | exact all_nil | refine List.forall_mem_cons.2 ⟨?_,?_⟩)
     · exact ⟨Int.natCast_nonneg _,by rw [hO,hO]; omega⟩
     · rw [strs_len,Nat.mul_one]
     · exact congrArg V.fptr (cellsAt_strs hx)
     · exact ieq_ok (by rw [hO]; omega) (by omega)
   · exact absurd (of_decide_eq_false (hc _ (List.mem_singleton.2 rfl))) (by rw [hO,hO]; omega)
 · obtain ⟨L3,hr3⟩:=ix_2 f rs [] rs.length
   refine TG_is X13 mo anyR (by kernel_rfl) hr3 fun g hg hc=>?_
   simp only [List.mem_cons,List.not_mem_nil,or_false] at hg
   rcases hg with rfl | rfl | rfl
   · exact absurd (of_decide_eq_true (hc _ (List.mem_cons_self ..))) (by rw [hO]; omega)
   · exact absurd (of_decide_eq_true (hc _ (List.mem_cons_self ..))) (by rw [hO]; omega)
   · exact ⟨all_nil,fun s' hs'=>⟨rfl,hs'⟩⟩
 · obtain ⟨L5,hr5⟩:=ix_end f rs rs.length
   refine TG_ret X13 mo _ (by kernel_rfl) hr5 fun g hg _=>?_
   rw [List.mem_singleton] at hg; subst hg
   exact ⟨all_nil,_,_,_,rfl,rfl,rfl,rfl⟩
def Has (es:List (D × D)) (x:List UInt8):Prop:=∃ d rs k,lookD (.str x) es=some (entD d rs k)
theorem has_hint {es:List (D × D)} {x d:List UInt8} {rs:List (List UInt8)} {k:Int} (h:lookD (.str x) es=some (entD d rs k)):
  (if true=true then V.tup [D.valV (V.agg [V.str ([]:List UInt8),V.slc none 0 0 0,V.int IntKind.i64 (0:Int)]) (lookD (D.str x) es),V.bool (lookD (D.str x) es).isSome] else D.valV (V.agg [V.str ([]:List UInt8),V.slc none 0 0 0,V.int IntKind.i64 (0:Int)]) (lookD (D.str x) es))=V.tup [entV d rs k,V.bool true]:=by
 rw [if_pos rfl,h]; rfl
theorem hasnt_hint {es:List (D × D)} {x:List UInt8} (h:lookD (.str x) es=none):
  (if true=true then V.tup [D.valV (V.agg [V.str ([]:List UInt8),V.slc none 0 0 0,V.int IntKind.i64 (0:Int)]) (lookD (D.str x) es),V.bool (lookD (D.str x) es).isSome] else D.valV (V.agg [V.str ([]:List UInt8),V.slc none 0 0 0,V.int IntKind.i64 (0:Int)]) (lookD (D.str x) es))=V.tup [entZ,V.bool false]:=by
 rw [if_pos rfl,h]; rfl
section
variable (len cap:Nat) (b:List UInt8) (fl nx lf:Int) (es rt:List (D × D))
abbrev hB:Tr O:=memB (pL (some (len,cap,b)) fl nx lf es rt)
theorem ix_end44 (f:Bool) (rs:List (List UInt8)) (i:Nat):∃ L,RunIs Tryz.prog cs13 [] 1000 8 Tryz.f73 [] enIx (sIx (hB len cap b fl nx lf es rt) 8 f44 f rs i) L [([],[],.ret (.int .i64 (-1)) (hB len cap b fl nx lf es rt) 8)]:=
 RunIs.of (by kernel_rfl) (by kernel_rfl) (by kernel_rfl)
theorem ix_hd44 (f:Bool) (rs:List (List UInt8)):∃ L,RunIs Tryz.prog cs13 [] 1000 8 Tryz.f73 [0,1] (headN 1 cdIx) (startSt [.lst f rs.length (strs rs),f44] (hB len cap b fl nx lf es rt) 8) L [([],[],.to .normal (sIa (hB len cap b fl nx lf es rt) 8 f44 f rs))]:=
 RunIs.of (by kernel_rfl) (by kernel_rfl) (by kernel_rfl)
theorem ix_144 (f:Bool) (rs:List (List UInt8)):∃ L,RunIs Tryz.prog cs13 [(8,.give (.int .i64 (Int.ofNat 0)))] 1000 8 Tryz.f73 [0,1,7,8] (seqL lpIx) (sIa (hB len cap b fl nx lf es rt) 8 f44 f rs) L [([],[V.int .i64 0=V.int .i64 0],.to .normal (sIx (hB len cap b fl nx lf es rt) 8 f44 f rs 0))]:=
 RunIs.of (by kernel_rfl) (by kernel_rfl) (by kernel_rfl)
theorem tgIx44 (f:Bool) (rs:List (List UInt8)) (hl:rs.length ≤ 1000000) (hg:∀ x ∈ rs,Has es x):TG Tryz.prog 8 Tryz.f73.ntmps cdIx (startSt [.lst f rs.length (strs rs),f44] (hB len cap b fl nx lf es rt) 8) (RetG Tryz.prog 8 Tryz.f73 fun a b' c=>a= .int .i64 (-1)∧b'=hB len cap b fl nx lf es rt∧c=8):=by
 have hO:∀ n:Nat,Int.ofNat n=(n:Int):=fun _=>rfl
 obtain ⟨L0,hr0⟩:=ix_hd44 len cap b fl nx lf es rt f rs
 refine TG_isN1 1 X13 mo (by kernel_rfl) hr0 all_nil ?_
 show TG Tryz.prog 8 Tryz.f73.ntmps tlIx _ _
 refine tgIxG ?_ (fun i x hx=>?_) ?_ ?_
 · obtain ⟨L2,hr2⟩:=ix_144 len cap b fl nx lf es rt f rs
   refine TG_is X13 mo anyR (by kernel_rfl) hr2 fun g hg _=>?_
   rw [List.mem_singleton] at hg; subst hg
   exact ⟨fun p hp=>by rw [List.mem_singleton] at hp; subst hp; rfl,fun s' hs'=>hs'⟩
 · have hlt:i < rs.length:=(List.getElem?_eq_some_iff.1 hx).1
   obtain ⟨d0,rs0,k,hk⟩:=hg x (List.mem_of_getElem? hx)
   obtain ⟨L3,hr3⟩:=ix_3 f rs x i len cap b d0 rs0 k fl nx lf es rt
   refine TG_is (XP [(18,[(15,.give (.tup [entV d0 rs0 k,.bool true]))])]) mo anyR (by kernel_rfl) hr3 fun g hg hc=>?_
   simp only [List.mem_cons,List.not_mem_nil,or_false] at hg
   rcases hg with rfl | rfl
   · refine ⟨?_,fun s' hs'=>hs'⟩
     repeat' (first | exact all_nil | refine List.forall_mem_cons.2 ⟨?_,?_⟩)
     · exact ⟨Int.natCast_nonneg _,by rw [hO,hO]; omega⟩
     · rw [strs_len,Nat.mul_one]
     · exact congrArg V.fptr (cellsAt_strs hx)
     · exact has_hint hk
     · exact ieq_ok (by rw [hO]; omega) (by omega)
   · exact absurd (of_decide_eq_false (hc _ (List.mem_singleton.2 rfl))) (by rw [hO,hO]; omega)
 · obtain ⟨L3,hr3⟩:=ix_4 f rs [] rs.length len cap b fl nx lf es rt
   refine TG_is (XP [(18,[(15,.give (.tup [entZ,.bool false]))])]) mo anyR (by kernel_rfl) hr3 fun g hg hc=>?_
   simp only [List.mem_cons,List.not_mem_nil,or_false] at hg
   rcases hg with rfl | rfl
   · exact absurd (of_decide_eq_true (hc _ (List.mem_singleton.2 rfl))) (by rw [hO]; omega)
   · exact ⟨all_nil,fun s' hs'=>⟨rfl,hs'⟩⟩
 · obtain ⟨L5,hr5⟩:=ix_end44 len cap b fl nx lf es rt f rs rs.length
   refine TG_ret X13 mo _ (by kernel_rfl) hr5 fun g hg _=>?_
   rw [List.mem_singleton] at hg; subst hg
   exact ⟨all_nil,_,_,_,rfl,rfl,rfl,rfl⟩
end
end Go.Proofs.YtfihojpgobmmdaaGreatDoor
namespace Go.Proofs.YtfihojpgobmmdaaGreatDoor
open Go Go.Eng
def specIx:List V→Option (List Prop × V)
 | [.lst _ n cs,.fn (.func 41) [] []]=>some ([cs=strs (strL cs),n=(strL cs).length,n ≤ 1000000,∀ x ∈ strL cs,x.length=32],.int .i64 (-1))
 | _=>none
theorem one_Ix:OneW Tryz.prog 73 (deepW specIx):=by
 refine deepW_ok (Nat.le_of_ble_eq_true (by kernel_rfl)) fun args A v e hA=>?_
 unfold specIx at e
 split at e
 · rename_i f n cs
   simp only [Option.some.injEq,Prod.mk.injEq] at e; obtain ⟨rfl,rfl⟩:=e
   have e1:cs=strs (strL cs):=hA _ (by simp)
   have e2:n=(strL cs).length:=hA (n=(strL cs).length) (by simp)
   have e3:n ≤ 1000000:=hA (n ≤ 1000000) (by simp)
   have e4:∀ x ∈ strL cs,x.length=32:=hA (∀ x ∈ strL cs,x.length=32) (by simp)
   generalize strL cs=ps at *
   subst e1 e2
   exact deep_calls mo po Tryz.func73 (by kernel_rfl) (by kernel_rfl) rfl rfl (TG_mono (tgIx41 f ps e3 e4) fun y s h=>by
    obtain ⟨hy,v,h',n',e,rfl,_,_⟩:=h
    exact ⟨hy,_,h',n',e,.self⟩)
 · cases e
noncomputable abbrev W14:CtrW:=addW 73 (deepW specIx) W13
theorem W14_ok:CtrWOk Tryz.prog W14:=addW_ok one_Ix W13_ok
noncomputable abbrev csQ (l:List (Nat × List (Nat × Fix))):CallS:=callX Tryz.prog W14 (hints l) 1000 40
noncomputable abbrev XQ (l:List (Nat × List (Nat × Fix))):CX Tryz.prog:=CX.of mo po W14_ok (hints l) 1000 40
def is44:List V→Bool
 | [_,.fn (.func 44) _ _]=>true
 | _=>false
section
variable (f:Bool) (rs:List (List UInt8)) (len cap:Nat) (b:List UInt8) (fl nx lf:Int) (es rt:List (D × D))
theorem cf_44:∃ L,RunIs Tryz.prog (pinQS (csQ []) 73 is44 [.lst f rs.length (strs rs),f44] (hB len cap b fl nx lf es rt) 8 (.int .i64 (-1),hB len cap b fl nx lf es rt,8)) [] 1000 8 Tryz.f43 [] cdCF (startSt [.lst f rs.length (strs rs),f44] (hB len cap b fl nx lf es rt) 8) L
  [([],[[V.lst f rs.length (strs rs),f44]=[.lst f rs.length (strs rs),f44]∧hB len cap b fl nx lf es rt=hB len cap b fl nx lf es rt∧8=8],.ret (.bool false) (hB len cap b fl nx lf es rt) 8)]:=
 RunIs.of (by kernel_rfl) (by kernel_rfl) (by kernel_rfl)
theorem call43 (hl:rs.length ≤ 1000000) (hg:∀ x ∈ rs,Has es x):CallIs Tryz.prog 43 [.lst f rs.length (strs rs),f44] (hB len cap b fl nx lf es rt) 8 (.bool false) (hB len cap b fl nx lf es rt) 8:=by
 have h73:CallIs Tryz.prog 73 [.lst f rs.length (strs rs),f44] (hB len cap b fl nx lf es rt) 8 (.int .i64 (-1)) (hB len cap b fl nx lf es rt) 8:=
  callIs_of_TG Tryz.func73 (by kernel_rfl) (by kernel_rfl) (tgIx44 len cap b fl nx lf es rt f rs hl hg)
 refine callIs_of_TG Tryz.func43 (code:=cdCF) (by kernel_rfl) (by kernel_rfl) ?_
 obtain ⟨L,hr⟩:=cf_44 f rs len cap b fl nx lf es rt
 refine TG_ret ((XQ []).pinQ is44 (Nat.le_of_ble_eq_true (by kernel_rfl)) h73) mo _ (by kernel_rfl) hr fun g hg _=>?_
 rw [List.mem_singleton] at hg; subst hg
 exact ⟨fun p hp=>by rw [List.mem_singleton] at hp; subst hp; exact ⟨rfl,rfl,rfl⟩,_,_,_,rfl,rfl,rfl,rfl⟩
end
noncomputable abbrev csR (l:List (Nat × List (Nat × Fix))) (h:Tr O) (f:Bool) (rs:List (List UInt8)):CallS:=pinQS (csQ l) 43 is44 [.lst f rs.length (strs rs),f44] h 8 (.bool false,h,8)
end Go.Proofs.YtfihojpgobmmdaaGreatDoor
namespace Go.Proofs.YtfihojpgobmmdaaGreatDoor
open Go Go.Eng
noncomputable abbrev cdPt:Code:=bodyOf Tryz.f15
def pN (fl nx lf:Int) (es rs:List (D × D)):Sto:=⟨none,fl,nx,false,false,lf,es,rs⟩
def pS (len cap:Nat) (b:List UInt8) (fl nx lf:Int) (es rs:List (D × D)):Sto:=⟨some (len,cap,b),fl,nx,false,false,lf,es,rs⟩
def hNew:List (Nat × List (Nat × Fix)):=[(18,[(15,.give (.tup [entZ,.bool false]))]),(46,[(13,.give (.bool false))])]
def mem0 (fl nx lf:Int) (es rt:List (D × D)):Tr O:=hL [(0,.ints .u32 gS),(1,.ints .u32 gR),(3,.cells (stoC 0 4 5 (pN fl nx lf es rt))),(4,.mapD none es),(5,.mapD none rt)]
theorem pt_n0 (d:List UInt8) (fl nx lf:Int) (es rt:List (D × D)):∃ L,RunIs Tryz.prog (csQ hNew) [(16,.give (.bool false))] 1000 6 Tryz.f15 [] (cdPt) (startSt [.ptr (some (3,0)),.str d,.slc none 0 0 0] (mem0 fl nx lf es rt) 6) L
  [([],
   [(V.bool (decide ((Int.ofNat d.length) > (65536:Int)))=V.bool false),(gS=gS),(gR=gR),([]=strs (strL [])),(0=0),(0 ≤ 1000000),((joinB (d :: strL [])).length ≤ 1000000000),((if true=true then V.tup [D.valV (V.agg [V.str ([]:List UInt8),V.slc none 0 0 0,V.int IntKind.i64 (0:Int)]) (lookD (D.str (nameOf d (strL []))) es),V.bool (lookD (D.str (nameOf d (strL []))) es).isSome] else D.valV (V.agg [V.str ([]:List UInt8),V.slc none 0 0 0,V.int IntKind.i64 (0:Int)]) (lookD (D.str (nameOf d (strL []))) es))=V.tup [entZ,V.bool false]),([]=strs (strL [])),(0=0),(d.length ≤ 100000000),(0 ≤ 1000000),(0 ≤ 100000000),(V.bool (decide (IntKind.i64.wrap ((0:Int)+(Int.ofNat (recB d (strL [])).length)) > (1048576:Int)))=V.bool false),(0 < (recB d (strL [])).length),(roomy (recB d (strL [])).length 1 1=true)],
   .ret (.tup [.str (nameOf d (strL [])),.int .i64 0]) (hL [(0,.ints .u32 gS),(1,.ints .u32 gR),(3,.cells [.slc (some (6,0)) ((recB d (strL [])).length) ((recB d (strL [])).length) 1,.int .i64 ((pN fl nx lf es rt).fl),.map (some 4),.map (some 5),.int .i64 (IntKind.i64.wrap ((pN fl nx lf es rt).nx+(1:Int))),.bool false,.bool false,.int .i64 ((pN fl nx lf es rt).lf)]),(4,.mapD none (updD (D.str (nameOf d (strL []))) (D.agg [D.str d,D.lst 0 [],D.int IntKind.i64 (pN fl nx lf es rt).nx]) es)),(5,.mapD none (rt)),(6,.buf 5 false (recB d (strL [])))]) 7)]
 :=RunIs.of (by kernel_rfl) (by kernel_rfl) (by kernel_rfl)
theorem pt_n2 (d:List UInt8) (len cap:Nat) (b:List UInt8) (fl nx lf:Int) (es rt:List (D × D)):∃ L,RunIs Tryz.prog (csQ hNew) [(16,.give (.bool false))] 1000 7 Tryz.f15 [] (cdPt) (startSt [.ptr (some (3,0)),.str d,.slc none 0 0 0] (memS (pS len cap b fl nx lf es rt)) 7) L
  [([],
   [(V.bool (decide ((Int.ofNat d.length) > (65536:Int)))=V.bool false),(gS=gS),(gR=gR),([]=strs (strL [])),(0=0),(0 ≤ 1000000),((joinB (d :: strL [])).length ≤ 1000000000),((if true=true then V.tup [D.valV (V.agg [V.str ([]:List UInt8),V.slc none 0 0 0,V.int IntKind.i64 (0:Int)]) (lookD (D.str (nameOf d (strL []))) (pS len cap b fl nx lf es rt).es),V.bool (lookD (D.str (nameOf d (strL []))) (pS len cap b fl nx lf es rt).es).isSome] else D.valV (V.agg [V.str ([]:List UInt8),V.slc none 0 0 0,V.int IntKind.i64 (0:Int)]) (lookD (D.str (nameOf d (strL []))) (pS len cap b fl nx lf es rt).es))=V.tup [entZ,V.bool false]),([]=strs (strL [])),(0=0),(d.length ≤ 100000000),(0 ≤ 1000000),(0 ≤ 100000000),(V.bool (decide (IntKind.i64.wrap ((Int.ofNat len)+(Int.ofNat (recB d (strL [])).length)) > (1048576:Int)))=V.bool false),(0 < cap),(len=b.length),(roomy (len+(recB d (strL [])).length) 1 1=true)],
   .ret (.tup [.str (nameOf d (strL [])),.int .i64 0]) (hL [(0,.ints .u32 gS),(1,.ints .u32 gR),(3,.cells [.slc (some (7,0)) (len+(recB d (strL [])).length) (len+(recB d (strL [])).length) 1,.int .i64 ((pS len cap b fl nx lf es rt).fl),.map (some 5),.map (some 6),.int .i64 (IntKind.i64.wrap ((pS len cap b fl nx lf es rt).nx+(1:Int))),.bool false,.bool false,.int .i64 ((pS len cap b fl nx lf es rt).lf)]),(5,.mapD none (updD (D.str (nameOf d (strL []))) (D.agg [D.str d,D.lst 0 [],D.int IntKind.i64 (pS len cap b fl nx lf es rt).nx]) (pS len cap b fl nx lf es rt).es)),(6,.mapD none ((pS len cap b fl nx lf es rt).rs)),(7,.buf 5 false (b ++ strI (bytesI (recB d (strL [])))))]) 8)]
 :=RunIs.of (by kernel_rfl) (by kernel_rfl) (by kernel_rfl)
theorem pt_l2 (d:List UInt8) (f:Bool) (rs:List (List UInt8)) (len cap:Nat) (b:List UInt8) (fl nx lf:Int) (es rt:List (D × D)):∃ L,RunIs Tryz.prog (csR hNew (hB len cap b fl nx lf es rt) f rs) [(16,.give (.bool false)),(20,.give (.bool false))] 1000 7 Tryz.f15 [] (cdPt) (startSt [.ptr (some (3,0)),.str d,.lst f rs.length (strs rs)] (memS (pS len cap b fl nx lf es rt)) 7) L
  [([],
   [(V.bool (decide ((Int.ofNat d.length) > (65536:Int)))=V.bool false),(V.bool (decide ((Int.ofNat rs.length) > (1024:Int)))=V.bool false),(strs rs=strs (strL (strs rs))),(rs.length=(strL (strs rs)).length),(rs.length ≤ 1000000),(∀ (x:List UInt8),x ∈ strL (strs rs)→x.length=32),([V.lst f rs.length (strs rs),f44]=[V.lst f rs.length (strs rs),f44]∧hB len cap b fl nx lf es rt=hB len cap b fl nx lf es rt∧8=8),(gS=gS),(gR=gR),(strs rs=strs (strL (strs rs))),(rs.length=(strL (strs rs)).length),(rs.length ≤ 1000000),((joinB (d :: strL (strs rs))).length ≤ 1000000000),((if true=true then V.tup [D.valV (V.agg [V.str ([]:List UInt8),V.slc none 0 0 0,V.int IntKind.i64 (0:Int)]) (lookD (D.str (nameOf d (strL (strs rs)))) (pL (some (len,cap,b)) fl nx lf es rt).es),V.bool (lookD (D.str (nameOf d (strL (strs rs)))) (pL (some (len,cap,b)) fl nx lf es rt).es).isSome] else D.valV (V.agg [V.str ([]:List UInt8),V.slc none 0 0 0,V.int IntKind.i64 (0:Int)]) (lookD (D.str (nameOf d (strL (strs rs)))) (pL (some (len,cap,b)) fl nx lf es rt).es))=V.tup [entZ,V.bool false]),(strs rs=strs (strL (strs rs))),(rs.length=(strL (strs rs)).length),(d.length ≤ 100000000),(rs.length ≤ 1000000),((strL (strs rs)).flatten.length ≤ 100000000),(V.bool (decide (IntKind.i64.wrap ((Int.ofNat len)+(Int.ofNat (recB d (strL (strs rs))).length)) > (1048576:Int)))=V.bool false),(0 < cap),(len=b.length),(roomy (len+(recB d (strL (strs rs))).length) 1 1=true),(0 < rs.length),((strs rs).length=rs.length),(rs.length ≤ 1000000)],
   .ret (.tup [.str (nameOf d (strL (strs rs))),.int .i64 0]) (hL [(0,.ints .u32 gS),(1,.ints .u32 gR),(3,.cells [.slc (some (7,0)) (len+(recB d (strL (strs rs))).length) (len+(recB d (strL (strs rs))).length) 1,.int .i64 ((pL (some (len,cap,b)) fl nx lf es rt).fl),.map (some 5),.map (some 6),.int .i64 (IntKind.i64.wrap ((pL (some (len,cap,b)) fl nx lf es rt).nx+(1:Int))),.bool false,.bool false,.int .i64 ((pL (some (len,cap,b)) fl nx lf es rt).lf)]),(5,.mapD none (updD (D.str (nameOf d (strL (strs rs)))) (D.agg [D.str d,D.lst rs.length (strs rs),D.int IntKind.i64 (pL (some (len,cap,b)) fl nx lf es rt).nx]) (pL (some (len,cap,b)) fl nx lf es rt).es)),(6,.mapD none ((pL (some (len,cap,b)) fl nx lf es rt).rs)),(7,.buf 5 false (b ++ strI (bytesI (recB d (strL (strs rs))))))]) 8)]
 :=RunIs.of (by kernel_rfl) (by kernel_rfl) (by kernel_rfl)
end Go.Proofs.YtfihojpgobmmdaaGreatDoor
namespace Go.Proofs.YtfihojpgobmmdaaGreatDoor
open Go Go.Eng
def memNw (n:Nat) (b:List UInt8) (fl nx lf:Int) (es rt:List (D × D)):Tr O:=hL [(0,.ints .u32 gS),(1,.ints .u32 gR),(3,.cells [.slc (some (7,0)) n n 1,.int .i64 fl,.map (some 5),.map (some 6),.int .i64 nx,.bool false,.bool false,.int .i64 lf]),(5,.mapD none es),(6,.mapD none rt),(7,.buf 5 false b)]
def mem0w (n:Nat) (b:List UInt8) (fl nx lf:Int) (es rt:List (D × D)):Tr O:=hL [(0,.ints .u32 gS),(1,.ints .u32 gR),(3,.cells [.slc (some (6,0)) n n 1,.int .i64 fl,.map (some 4),.map (some 5),.int .i64 nx,.bool false,.bool false,.int .i64 lf]),(4,.mapD none es),(5,.mapD none rt),(6,.buf 5 false b)]
theorem strL_nil:strL []=[]:=rfl
theorem gt_false {x y:Int} (h:x ≤ y):V.bool (decide (x > y))=V.bool false:=by
 rw [decide_eq_false (by omega)]
theorem joinB_cons_le (d:List UInt8) (rs:List (List UInt8)) (h:∀ x ∈ rs,x.length=32):(joinB (d :: rs)).length=8+d.length+40 * rs.length:=by
 have key:∀ rs:List (List UInt8),(∀ x ∈ rs,x.length=32)→(joinB rs).length=40 * rs.length:=by
  intro rs
  induction rs with
  | nil=>intro _; rfl
  | cons x rs ih=>
    intro h
    have:=ih fun y hy=>h y (by simp [hy])
    have hx:=h x (by simp)
    unfold joinB at this ⊢
    rw [List.flatMap_cons,List.length_append,this,List.length_append,put8_len,hx,List.length_cons]; omega
 have e:joinB (d :: rs)=(put8 (Int.ofNat d.length) ++ d) ++ joinB rs:=by
  unfold joinB; rw [List.flatMap_cons]
 rw [e,List.length_append,key rs h,List.length_append,put8_len]
theorem flat_len {rs:List (List UInt8)} (h:∀ x ∈ rs,x.length=32):rs.flatten.length=32 * rs.length:=by
 induction rs with
 | nil=>rfl
 | cons x rs ih=>
   rw [List.flatten_cons,List.length_append,ih fun y hy=>h y (by simp [hy]),h x (by simp),List.length_cons]; omega
theorem recB_lenr (d:List UInt8) {rs:List (List UInt8)} (h:∀ x ∈ rs,x.length=32):(recB d rs).length ≤ d.length+20+32 * rs.length:=by
 have:=(recB_len d rs).2
 rw [flat_len h] at this; exact this
section
variable (d:List UInt8) (len cap:Nat) (b:List UInt8) (fl nx lf:Int) (es rt:List (D × D))
theorem put_new0 (hd:d.length ≤ 65536) (hk:lookD (.str (nameOf d [])) es=none) (hc:0 < cap) (hl:len=b.length) (hfit:len+(recB d []).length ≤ 1048576):
  CallIs Tryz.prog 15 [.ptr (some (3,0)),.str d,.slc none 0 0 0] (memS (pS len cap b fl nx lf es rt)) 7 (.tup [.str (nameOf d []),.int .i64 0])
   (memNw (len+(recB d []).length) (b ++ recB d []) fl (IntKind.i64.wrap (nx+1)) lf (updD (.str (nameOf d [])) (entD d [] nx) es) rt) 8:=by
 have hO:∀ n:Nat,Int.ofNat n=(n:Int):=fun _=>rfl
 refine callIs_of_TG Tryz.func15 (code:=cdPt) (by kernel_rfl) (by kernel_rfl) ?_
 obtain ⟨L,hr⟩:=pt_n2 d len cap b fl nx lf es rt
 simp only [strL_nil,strI_bytesI] at hr
 refine TG_ret (XQ hNew) mo _ (by kernel_rfl) hr fun g hg _=>?_
 rw [List.mem_singleton] at hg; subst hg
 refine ⟨?_,_,_,_,rfl,rfl,rfl,rfl⟩
 have hj:=joinB_cons_le d [] (by simp)
 simp only [List.length_nil] at hj
 repeat' (first | exact all_nil | refine List.forall_mem_cons.2 ⟨?_,?_⟩)
 · exact gt_false (by rw [hO]; omega)
 · first | rfl | trivial
 · first | rfl | trivial
 · first | rfl | trivial
 · first | rfl | trivial
 · first | decide | trivial
 · show (joinB [d]).length ≤ _; omega
 · exact hasnt_hint hk
 · first | rfl | trivial
 · first | rfl | trivial
 · omega
 · first | decide | trivial
 · first | decide | trivial
 · show V.bool (decide (IntKind.i64.wrap (Int.ofNat len+Int.ofNat (recB d []).length) > 1048576))=_
   rw [wrap_id (by rw [hO,hO]; omega) (by rw [hO,hO]; omega)]
   exact gt_false (by rw [hO,hO]; omega)
 · exact hc
 · exact hl
 · exact roomy_ok (by show len+(recB d []).length ≤ _; omega)
theorem put_first (hd:d.length ≤ 65536) (hk:lookD (.str (nameOf d [])) es=none):
  CallIs Tryz.prog 15 [.ptr (some (3,0)),.str d,.slc none 0 0 0] (mem0 fl nx lf es rt) 6 (.tup [.str (nameOf d []),.int .i64 0])
   (mem0w (recB d []).length (recB d []) fl (IntKind.i64.wrap (nx+1)) lf (updD (.str (nameOf d [])) (entD d [] nx) es) rt) 7:=by
 have hO:∀ n:Nat,Int.ofNat n=(n:Int):=fun _=>rfl
 refine callIs_of_TG Tryz.func15 (code:=cdPt) (by kernel_rfl) (by kernel_rfl) ?_
 obtain ⟨L,hr⟩:=pt_n0 d fl nx lf es rt
 simp only [strL_nil] at hr
 refine TG_ret (XQ hNew) mo _ (by kernel_rfl) hr fun g hg _=>?_
 rw [List.mem_singleton] at hg; subst hg
 refine ⟨?_,_,_,_,rfl,rfl,rfl,rfl⟩
 have hj:=joinB_cons_le d [] (by simp)
 have hrl:=recB_lenr d (rs:=[]) (by simp)
 have hr0:=(recB_len d []).1
 simp only [List.length_nil] at hj hrl
 repeat' (first | exact all_nil | refine List.forall_mem_cons.2 ⟨?_,?_⟩)
 · exact gt_false (by rw [hO]; omega)
 · first | rfl | trivial
 · first | rfl | trivial
 · first | rfl | trivial
 · first | rfl | trivial
 · first | decide | trivial
 · show (joinB [d]).length ≤ _; omega
 · exact hasnt_hint hk
 · first | rfl | trivial
 · first | rfl | trivial
 · omega
 · first | decide | trivial
 · first | decide | trivial
 · show V.bool (decide (IntKind.i64.wrap ((0:Int)+Int.ofNat (recB d []).length) > 1048576))=_
   rw [wrap_id (by rw [hO]; omega) (by rw [hO]; omega)]
   exact gt_false (by rw [hO]; omega)
 · exact hr0
 · exact roomy_ok (by show (recB d []).length ≤ _; omega)
variable (f:Bool) (rs:List (List UInt8))
theorem put_newL (hd:d.length ≤ 65536) (hn:rs.length ≤ 1024) (h0:0 < rs.length) (h32:∀ x ∈ rs,x.length=32) (hks:∀ x ∈ rs,Has es x) (hk:lookD (.str (nameOf d rs)) es=none) (hc:0 < cap) (hl:len=b.length) (hfit:len+(recB d rs).length ≤ 1048576):
  CallIs Tryz.prog 15 [.ptr (some (3,0)),.str d,.lst f rs.length (strs rs)] (memS (pS len cap b fl nx lf es rt)) 7 (.tup [.str (nameOf d rs),.int .i64 0])
   (memNw (len+(recB d rs).length) (b ++ recB d rs) fl (IntKind.i64.wrap (nx+1)) lf (updD (.str (nameOf d rs)) (entD d rs nx) es) rt) 8:=by
 have hO:∀ n:Nat,Int.ofNat n=(n:Int):=fun _=>rfl
 refine callIs_of_TG Tryz.func15 (code:=cdPt) (by kernel_rfl) (by kernel_rfl) ?_
 obtain ⟨L,hr⟩:=pt_l2 d f rs len cap b fl nx lf es rt
 simp only [strL_strs,strI_bytesI] at hr
 refine TG_ret ((XQ hNew).pinQ is44 (Nat.le_of_ble_eq_true (by kernel_rfl)) (call43 f rs len cap b fl nx lf es rt (by omega) hks)) mo _ (by kernel_rfl) hr fun g hg _=>?_
 rw [List.mem_singleton] at hg; subst hg
 refine ⟨?_,_,_,_,rfl,rfl,rfl,rfl⟩
 have hj:=joinB_cons_le d rs h32
 have hfl:=flat_len h32
 repeat' (first | exact all_nil | refine List.forall_mem_cons.2 ⟨?_,?_⟩)
 · exact gt_false (by rw [hO]; omega)
 · exact gt_false (by rw [hO]; omega)
 · first | rfl | trivial
 · first | rfl | trivial
 · omega
 · exact h32
 · first | exact ⟨rfl,rfl,rfl⟩ | exact ⟨trivial,trivial,rfl⟩ | exact ⟨trivial,trivial,trivial⟩ | trivial
 · first | rfl | trivial
 · first | rfl | trivial
 · first | rfl | trivial
 · first | rfl | trivial
 · omega
 · omega
 · exact hasnt_hint hk
 · first | rfl | trivial
 · first | rfl | trivial
 · omega
 · omega
 · omega
 · rw [wrap_id (by rw [hO,hO]; omega) (by rw [hO,hO]; omega)]
   exact gt_false (by rw [hO,hO]; omega)
 · exact hc
 · exact hl
 · exact roomy_ok (by omega)
 · exact h0
 · exact strs_len rs
 · omega
end
end Go.Proofs.YtfihojpgobmmdaaGreatDoor
