/-
  On the way to flowTells_card: part 10 of 11.
-/
import Derived.Test.YtojjkleplnijaaaGreatDoorPk9
set_option linter.unusedVariables false
set_option linter.unusedSimpArgs false
namespace Go.Proofs.YtojjkleplnijaaaGreatDoor
open Go.AE Go.Ru
set_option maxRecDepth 100000
set_option maxHeartbeats 1000000
def cTReach:AC:=fun args K k=>∃ ns root s i X,args=[rP,intV i]∧K=tK ns root s++X∧s.n<100000∧Clos s∧(∀ x,x<s.n→(s.f x).nx.length<1000)∧(∀ l,ReachL s i l→k (.ret (intsV l)) (tK ns root s++X))
structure RB where
 f:Nat→Bool
 b:Bool
structure RC8 where
 i:Nat
 f:Nat→Bool
 b:Bool
def gainB (b:Bool):Nat:=if b then 2 else 0
def ClosI (s:BSt) (f:Nat→Bool) (n:Nat):Prop:=∀ i,i<n→f i=true→∀ z:Nat,succG (s.f i) (z:Int)→f z=true
theorem treach8_ok:COk 42 cTReach:=by
 rintro args K k ⟨ns,root,s,i,X,rfl,rfl,hn,hcl,hsh,hk⟩
 refine frameZ (K0:=tK ns root s) (gput_ok tafter8_ok g0_ok) 19 rfl tK_cl fun Q hr=>?_
 conv=>whnf
 refine two_dec (fun h0=>?_) (fun h0=>?_)
 ·have h0:i<0:=h0
  conv=>whnf
  exact hr _ _ (intsV []) (tK ns root s) _ (Wk1.le (AV.nils_le _ _) (lesK.refl _)) rfl rfl tK_cl (hk [] (reach_no (by omega)))
 have h0:¬ i<0:=h0
 conv=>whnf
 refine two_dec (fun h1=>?_) (fun h1=>?_)
 ·have h1:i≥(s.n:Int):=h1
  conv=>whnf
  exact hr _ _ (intsV []) (tK ns root s) _ (Wk1.le (AV.nils_le _ _) (lesK.refl _)) rfl rfl tK_cl (hk [] (reach_no (by omega)))
 have h1:¬ i≥(s.n:Int):=h1
 obtain⟨x,rfl⟩:∃ x:Nat,i=(x:Int):=⟨i.toNat,by omega⟩
 have hx:x<s.n:=by omega
 have hx':(x:Int)<(s.n:Int):=by omega
 have hR00:RInv s x (setB (fun _=>false) x):=⟨by simp [setB],fun y hy=>by
  unfold setB at hy
  split at hy
  ·rename_i e;subst e;exact⟨.refl,hx⟩
  ·cases hy⟩
 conv=>whnf
 refine Chk.mk ⟨by omega,Int.le_refl _,by omega,(by show ((1:Nat):Int)*(s.n:Int)≤140737488355328;omega)⟩ ?_
 conv=>whnf
 refine Chk.mk ⟨rfl,Nat.zero_add _,by omega,hx',rfl⟩ ?_
 conv=>whnf
 refine Chk.mk ⟨rfl,rfl⟩ ?_
 conv=>whnf
 refine loop_up (ι:=RB) [0,5] (fun c=>[(6,.p (.bool c.b))]) (fun c=>[(4,seenA s.n c.f)]) (fun c=>RInv s x c.f∧(c.b=false→ClosI s c.f s.n)) (fun c=>2*cntF c.f s.n+(if c.b then 1 else 0)) ⟨setB (fun _=>false) x,true⟩
  ⟨AV.le_refl _,trivial⟩ ⟨upLe1 rfl (seen_set (by simp) rfl),trivial⟩ ⟨hR00,fun e=>by cases e⟩ ?_
 rintro Y hle ⟨f0,b0⟩ ⟨hR0,hC0⟩ ih
 simp only at hR0 hC0
 cases b0 with
 | true =>
  conv=>whnf
  refine loop_up (ι:=RC8) [0,5] (fun c=>[(6,.p (.bool c.b)),(7,intV c.i)]) (fun c=>[(4,seenA s.n c.f)]) (fun c=>c.i≤s.n∧RInv s x c.f∧2*cntF c.f s.n+gainB c.b≤2*cntF f0 s.n∧(c.b=false→ClosI s c.f c.i)) (fun c=>s.n - c.i) ⟨0,f0,false⟩
   ⟨AV.le_refl _,AV.le_refl _,trivial⟩ ⟨upLe1 rfl (ABlk.le_refl _),trivial⟩ ⟨Nat.zero_le _,hR0,by simp [gainB],fun _ i hi=>absurd hi (Nat.not_lt_zero _)⟩ ?_
  rintro Z hlz ⟨i,f1,b1⟩ ⟨hi,hR1,hcn1,hC1⟩ ihz
  simp only at hi hR1 hcn1 hC1
  conv=>whnf
  refine two_dec (fun h=>?_) (fun h=>?_)
  ·have h':(i:Int)<(s.n:Int):=h
   have h:i<s.n:=by omega
   have hw1:=wzz (i:=i) (by omega)
   conv=>whnf
   refine Chk.mk ⟨rfl,Nat.zero_add _,by omega,h',rfl⟩ ?_
   conv=>whnf
   refine Chk.mk ⟨rfl,rfl⟩ ?_
   conv=>whnf
   refine two_not (fun hs=>?_) (fun hs=>?_)
   ·have hs:f1 i=false:=by have hs:f1 (0+i)=false:=hs;rwa [Nat.zero_add] at hs
    conv=>whnf
    refine hlz _ _ (Le.env ?_ ?_) (ihz ⟨i+1,f1,b1⟩ (by show _ - (i+1)<_ - i;omega) ⟨h,hR1,hcn1,fun e j hj hfj=>(Nat.lt_succ_iff_lt_or_eq.1 hj).elim (fun h2=>hC1 e j h2 hfj) fun e2=>absurd hfj (by rw [e2];show ¬ f1 i=true;rw [hs];decide)⟩)
    ·skip
     repeat' (first|exact trivial|((conv=>whnf);first|exact trivial|refine⟨AV.le_refl _,?_⟩|refine⟨ABlk.le_refl _,?_⟩|(refine⟨AV.le_of_eq ?_,?_⟩;focus ((first|exact congrArg intV hw1|fail);done))|(refine⟨ABlk.le_of_eq ?_,?_⟩;focus ((first|exact congrArg intV hw1|fail);done))|fail)|fail)
    ·skip
     repeat' (first|exact trivial|((conv=>whnf);first|exact trivial|refine⟨AV.le_refl _,?_⟩|refine⟨ABlk.le_refl _,?_⟩|fail)|fail)
   have hs:f1 i=true:=by have hs:f1 (0+i)=true:=hs;rwa [Nat.zero_add] at hs
   obtain⟨l,hl⟩:∃ l,afterT s (i:Int)=l:=⟨_,rfl⟩
   have hlm:∀ y,y∈l↔succG (s.f i) y:=fun y=>by rw [← hl];exact after_mem h
   have hll:l.length≤2000:=by
    rw [← hl,after_in h]
    have h1:=setI_len (nxtS (s.f i))
    have h2:=hsh i h
    have h3:(nxtS (s.f i)).length≤(s.f i).nx.length+1:=by unfold nxtS;split<;>simp
    omega
   conv=>whnf
   refine⟨ns,root,s,(i:Int),l,_,rfl,rfl,hn,hcl,hsh,hl,?_⟩
   conv=>whnf
   refine loop_up (ι:=RC8) [0,5,7,8] (fun c=>[(6,.p (.bool c.b)),(9,intV c.i)]) (fun c=>[(4,seenA s.n c.f)])
    (fun c=>c.i≤l.length∧RInv s x c.f∧c.f i=true∧2*cntF c.f s.n+gainB c.b≤2*cntF f0 s.n∧(c.b=false→ClosI s c.f i∧∀ j,j<c.i→c.f (l.getD j 0).toNat=true)) (fun c=>l.length - c.i) ⟨0,f1,b1⟩
    ⟨AV.le_refl _,AV.le_refl _,trivial⟩ ⟨upLe1 rfl (ABlk.le_refl _),trivial⟩ ⟨Nat.zero_le _,hR1,hs,hcn1,fun e=>⟨hC1 e,fun j hj=>absurd hj (Nat.not_lt_zero _)⟩⟩ ?_
   rintro Z2 hlk ⟨k',f,b⟩ ⟨hkl,hR2,hfi2,hcn2,hcb⟩ ihk
   simp only at hkl hR2 hfi2 hcn2 hcb
   conv=>whnf
   refine two_dec (fun h2=>?_) (fun h2=>?_)
   ·have hk':(k':Int)<(l.length:Int):=h2
    have hkn:k'<l.length:=by omega
    have hw3:=wzz (i:=k') (by omega)
    have hzs:=(hlm _).1 (getD_mem hkn)
    obtain⟨z0,z1⟩:=hcl i h _ hzs
    obtain⟨z,hz2⟩:∃ z:Nat,l.getD k' 0=(z:Int):=⟨(l.getD k' 0).toNat,by omega⟩
    rw [hz2] at hzs
    have hzn:z<s.n:=by omega
    have hzv:0+(l.getD k' 0).toNat=z:=by rw [hz2];simp
    conv=>whnf
    refine Chk.mk ⟨by omega,hk',rfl⟩ ?_
    conv=>whnf
    refine Chk.mk ⟨rfl,Nat.zero_add _,z0,z1,rfl⟩ ?_
    conv=>whnf
    refine Chk.mk ⟨rfl,rfl⟩ ?_
    conv=>whnf
    refine two_not (fun hs=>?_) (fun hs=>?_)
    ·have hs:f z=false:=by have hs:f (0+(l.getD k' 0).toNat)=false:=hs;rwa [hzv] at hs
     have hcs:=cntF_set hs hzn
     have hgb:2*cntF (setB f z) s.n+gainB true≤2*cntF f0 s.n:=by simp only [gainB,if_pos];omega
     conv=>whnf
     refine Chk.mk ⟨by omega,hk',rfl⟩ ?_
     conv=>whnf
     refine Chk.mk ⟨rfl,Nat.zero_add _,z0,z1,rfl⟩ ?_
     conv=>whnf
     refine Chk.mk ⟨rfl,rfl⟩ ?_
     conv=>whnf
     refine hlk _ _ (Le.env ?_ ?_) (ihk ⟨k'+1,setB f z,true⟩ (by show _ - (k'+1)<_ - k';omega) ⟨hkn,hR2.set hfi2 hcl hzs,by show setB f z i=true;unfold setB;split;rfl;exact hfi2,hgb,fun e=>by cases e⟩)
     ·skip
      repeat' (first|exact trivial|((conv=>whnf);first|exact trivial|refine⟨AV.le_refl _,?_⟩|refine⟨ABlk.le_refl _,?_⟩|(refine⟨AV.le_of_eq ?_,?_⟩;focus ((first|exact congrArg intV hw3|fail);done))|(refine⟨ABlk.le_of_eq ?_,?_⟩;focus ((first|exact congrArg intV hw3|fail);done))|fail)|fail)
     ·skip
      iterate 4 ((conv=>whnf);refine⟨ABlk.le_refl _,?_⟩)
      (conv=>whnf);refine⟨seen_set hzv rfl,?_⟩
      (conv=>whnf);exact trivial
    ·have hs:f z=true:=by have hs:f (0+(l.getD k' 0).toNat)=true:=hs;rwa [hzv] at hs
     conv=>whnf
     refine hlk _ _ (Le.env ?_ ?_) (ihk ⟨k'+1,f,b⟩ (by show _ - (k'+1)<_ - k';omega) ⟨hkn,hR2,hfi2,hcn2,fun e=>⟨(hcb e).1,fun j hj=>(Nat.lt_succ_iff_lt_or_eq.1 hj).elim ((hcb e).2 j) fun e2=>by rw [e2,hz2,Int.toNat_natCast];exact hs⟩⟩)
     ·skip
      repeat' (first|exact trivial|((conv=>whnf);first|exact trivial|refine⟨AV.le_refl _,?_⟩|refine⟨ABlk.le_refl _,?_⟩|(refine⟨AV.le_of_eq ?_,?_⟩;focus ((first|exact congrArg intV hw3|fail);done))|(refine⟨ABlk.le_of_eq ?_,?_⟩;focus ((first|exact congrArg intV hw3|fail);done))|fail)|fail)
     ·skip
      repeat' (first|exact trivial|((conv=>whnf);first|exact trivial|refine⟨AV.le_refl _,?_⟩|refine⟨ABlk.le_refl _,?_⟩|fail)|fail)
   ·obtain rfl:k'=l.length:=by have h2:¬ (k':Int)<(l.length:Int):=h2;omega
    conv=>whnf
    refine hlz _ _ (Le.env ?_ ?_) (ihz ⟨i+1,f,b⟩ (by show _ - (i+1)<_ - i;omega) ⟨h,hR2,hcn2,fun e j hj hfj=>(Nat.lt_succ_iff_lt_or_eq.1 hj).elim (fun h2=>(hcb e).1 j h2 hfj) fun e2 z hz=>by
     subst e2
     obtain⟨j,hj,e3⟩:=List.getElem_of_mem ((hlm _).2 hz)
     have:=(hcb e).2 j hj
     rw [List.getD_eq_getElem?_getD,List.getElem?_eq_getElem hj,e3] at this
     simpa using this⟩)
    ·skip
     repeat' (first|exact trivial|((conv=>whnf);first|exact trivial|refine⟨AV.le_refl _,?_⟩|refine⟨ABlk.le_refl _,?_⟩|(refine⟨AV.le_of_eq ?_,?_⟩;focus ((first|exact congrArg intV hw1|fail);done))|(refine⟨ABlk.le_of_eq ?_,?_⟩;focus ((first|exact congrArg intV hw1|fail);done))|fail)|fail)
    ·skip
     repeat' (first|exact trivial|((conv=>whnf);first|exact trivial|refine⟨AV.le_refl _,?_⟩|refine⟨ABlk.le_refl _,?_⟩|fail)|fail)
  ·obtain rfl:i=s.n:=by have h:¬ (i:Int)<(s.n:Int):=h;omega
   conv=>whnf
   refine hle _ _ (Le.env ?_ ?_) (ih ⟨f1,b1⟩ (by
    show 2*cntF f1 s.n+(if b1=true then 1 else 0)<2*cntF f0 s.n+1
    cases b1 with
    | true=>simp only [gainB,if_pos] at hcn1;simp only [if_pos];omega
    | false=>simp only [gainB] at hcn1;simp at hcn1 ⊢;omega) ⟨hR1,hC1⟩)
   ·skip
    repeat' (first|exact trivial|((conv=>whnf);first|exact trivial|refine⟨AV.le_refl _,?_⟩|refine⟨ABlk.le_refl _,?_⟩|fail)|fail)
   ·skip
    repeat' (first|exact trivial|((conv=>whnf);first|exact trivial|refine⟨AV.le_refl _,?_⟩|refine⟨ABlk.le_refl _,?_⟩|fail)|fail)
 | false =>
  have hD:=hk _ (hR0.done hcl (hC0 rfl))
  conv=>whnf
  refine loop_nil (ι:=IL) 3 1 (fun i=>pvs (rowF (fun i=>([]:List Int).getD i 0) i)) (fun c=>⟨[(5,.slr 4 0 0 s.n),(10,.slr 5 0 0 c.l.length),(11,intV c.i)],tK ns root s++[seenA s.n f0,rowA c.l.length (fun i=>c.l.getD i 0)]⟩)
   (fun c=>c.i≤s.n∧c.l=filI f0 c.i) (fun c=>s.n - c.i) ⟨0,[]⟩ (tK ns root s++[seenA s.n f0])
   rfl ⟨.inl (AV.le_refl _),.inr ⟨rfl,rfl⟩,.inl (AV.le_refl _),trivial⟩ ⟨.inl (ABlk.le_refl _),.inl (ABlk.le_refl _),.inl (ABlk.le_refl _),.inl (ABlk.le_refl _),.inl (ABlk.le_refl _),trivial⟩ rfl ⟨Nat.zero_le _,rfl⟩ ?_
  rintro Z hlz ⟨i,l⟩ ⟨hi,hl⟩ ihz
  simp only at hi hl
  have hll:l.length≤i:=by rw [hl];exact filI_len
  conv=>whnf
  refine two_dec (fun h=>?_) (fun h=>?_)
  ·have h':(i:Int)<(s.n:Int):=h
   have h:i<s.n:=by omega
   have hw1:=wzz (i:=i) (by omega)
   conv=>whnf
   refine Chk.mk ⟨rfl,Nat.zero_add _,by omega,h',rfl⟩ ?_
   conv=>whnf
   refine Chk.mk ⟨rfl,rfl⟩ ?_
   conv=>whnf
   refine two_intro (fun hs=>?_) (fun hs=>?_)
   ·have hs:f0 i=true:=by have hs:f0 (0+i)=true:=hs;rwa [Nat.zero_add] at hs
    have hl2:l++[(i:Int)]=filI f0 (i+1):=by simp only [filI,hs,hl]
    conv=>whnf
    refine Chk.mk ⟨rfl,rfl,rfl,allLt_ok ⟨trivial,rfl⟩⟩ ?_
    conv=>whnf
    refine Chk.mk ⟨rfl,rfl,rfl,rfl,(by show (l.length+1)*8≤140737488355328;omega),(by show l.length+1≤9223372036854775807;omega)⟩ ?_
    conv=>whnf
    refine hlz _ _ (Le.cutEnv 6 rfl rfl ⟨rfl,rfl,rfl,rfl,fun _ _=>rfl,psR_cl rfl,trivial⟩ ?_ ?_) (ihz ⟨i+1,l++[(i:Int)]⟩ (by show _ - (i+1)<_ - i;omega) ⟨h,hl2⟩)
    ·skip
     repeat' (first|exact trivial|((conv=>whnf);first|exact trivial|refine⟨AV.le_refl _,?_⟩|refine⟨ABlk.le_refl _,?_⟩|(refine⟨AV.le_of_eq ?_,?_⟩;focus ((first|exact congrArg intV hw1|exact congrArg (fun n=>AV.slr 5 0 0 n) (show l.length+1=(l++[(i:Int)]).length by simp)|fail);done))|(refine⟨ABlk.le_of_eq ?_,?_⟩;focus ((first|exact congrArg intV hw1|exact congrArg (fun n=>AV.slr 5 0 0 n) (show l.length+1=(l++[(i:Int)]).length by simp)|fail);done))|fail)|fail)
    ·skip
     iterate 5 ((conv=>whnf);refine⟨ABlk.le_refl _,?_⟩)
     (conv=>whnf);refine⟨?_,?_⟩
     ·show ABlk.le _ (rowA (l++[(i:Int)]).length _)
      rw [show (l++[(i:Int)]).length=l.length+1 by simp]
      exact ps_snoc
     ·exact trivial
   ·have hs:f0 i=false:=by have hs:f0 (0+i)=false:=hs;rwa [Nat.zero_add] at hs
    have hl2:l=filI f0 (i+1):=by simp only [filI,hs,List.append_nil,hl]
    conv=>whnf
    refine hlz _ _ (Le.cutEnv 6 rfl rfl ⟨rfl,rfl,rfl,rfl,fun _ _=>rfl,fun _ _=>rfl,trivial⟩ ?_ ?_) (ihz ⟨i+1,l⟩ (by show _ - (i+1)<_ - i;omega) ⟨h,hl2⟩)
    ·skip
     repeat' (first|exact trivial|((conv=>whnf);first|exact trivial|refine⟨AV.le_refl _,?_⟩|refine⟨ABlk.le_refl _,?_⟩|(refine⟨AV.le_of_eq ?_,?_⟩;focus ((first|exact congrArg intV hw1|fail);done))|(refine⟨ABlk.le_of_eq ?_,?_⟩;focus ((first|exact congrArg intV hw1|fail);done))|fail)|fail)
    ·skip
     repeat' (first|exact trivial|((conv=>whnf);first|exact trivial|refine⟨AV.le_refl _,?_⟩|refine⟨ABlk.le_refl _,?_⟩|fail)|fail)
  ·obtain rfl:i=s.n:=by have h:¬ (i:Int)<(s.n:Int):=h;omega
   rw [← hl] at hD
   conv=>whnf
   exact hr _ _ (intsV l) (tK ns root s) _ (Wk1.freeze (r:=5) rfl (kidF l) (fun _ _=>rfl)) rfl rfl tK_cl hD
def eSameE:AC:=fun args K k=>∃ l l',args=[intsV l,intsV l']∧l=l'∧List.length l<1000000∧k (.ret (.p (.bool true))) K
theorem sameE_ok:COk 30 eSameE:=by
 rintro args K k ⟨l,l',h1,rfl,h2,h3⟩
 exact sameI_ok args K k ⟨l,h1,h2,h3⟩
def eOfV:AC:=fun args K k=>∃ s place v,args=[graphV s,intV place]∧s.n<1000000∧ofT s place=v∧k (.ret (intV v)) K
theorem ofV_ok:COk 37 eOfV:=by
 rintro args K k ⟨s,place,v,rfl,hn,hv,hk⟩
 exact (of_ok [graphW s,intV place] K k ⟨s,place,v,rfl,hn,hv,hk⟩).pre fun w m Args hS hV=>⟨m,Tr.refl w m,hS,vl_le2 hV (graph_weak s)⟩
def gFt:AG:=gput 26 cShown7 (gput 27 (eSmall 300) (gput 28 eBuild (gput 29 eRBuild (gput 30 eSameE
 (gput 31 eRaises (gput 32 eRRaises (gput 33 (eEndsV 1) (gput 35 (eEndsV 2) (gput 36 (eEndsV 3) (gput 37 eOfV
 (gput 39 eAfter (gput 41 eReach (gput 34 cTEnd (gput 38 cTOf (gput 40 cTAfter (gput 42 cTReach g0))))))))))))))))
theorem gFt_ok:GOk Tryz.prog gFt:=gput_ok shown8_ok (gput_ok eSmall8_ok (gput_ok build_okW (gput_ok rbuild_ok (gput_ok sameE_ok (gput_ok raises_ok (gput_ok rraises8_ok (gput_ok (endsV_ok entry_ok) (gput_ok (endsV_ok exit_ok) (gput_ok (endsV_ok fail_ok8) (gput_ok ofV_ok
 (gput_ok after_ok (gput_ok reach_ok (gput_ok tend8_ok (gput_ok tof8_ok (gput_ok tafter8_ok (gput_ok treach8_ok g0_ok))))))))))))))))
theorem tells_calls (ns:List Nd) (root n:Int) (K:List ABlk) (k:AO→List ABlk→Prop) (hk:k (.ret (.p (.bool true))) K):ACalls Tryz.prog 6 [treeV ns root,intV n] K k:=by
 cases hs:smallS 300 ns with
 | false =>
  refine frame0P gFt_ok 19 rfl fun Q hr=>?_
  conv=>whnf
  refine⟨rfl,?_⟩
  conv=>whnf
  refine⟨ns,root,_,rfl,hs,?_⟩
  conv=>whnf
  exact hr _ _ rfl hk
 | true =>
 have ta:=small_tame (m:=300) (by decide) hs
 have kt:=small_kt (m:=300) (by decide) hs
 obtain⟨a,e,hc⟩:∃ a e,checkTree ns root=(a,e):=⟨_,_,rfl⟩
 obtain⟨s,hb⟩:∃ s,buildS ns root=s:=⟨_,rfl⟩
 obtain⟨v,hv⟩:∃ v,raisesT ns root n=v:=⟨_,rfl⟩
 by_cases he:e=0
 case neg =>
  refine frame0P gFt_ok 19 rfl fun Q hr=>?_
  conv=>whnf
  refine⟨rfl,?_⟩
  conv=>whnf
  refine⟨ns,root,_,rfl,hs,?_⟩
  conv=>whnf
  refine⟨ns,root,n,v,rfl,ta,hv,?_⟩
  conv=>whnf
  repeat ((refine And.intro ?_ ?_);(focus ((conv=>whnf);first|done|exact⟨⟨by omega,by omega,rfl⟩,by conv=>whnf⟩));conv=>whnf)
  refine⟨ns,root,n,v,rfl,ta,kt,hv,?_⟩
  conv=>whnf
  repeat ((refine And.intro ?_ ?_);(focus ((conv=>whnf);first|done|exact⟨⟨by omega,by omega,rfl⟩,by conv=>whnf⟩));conv=>whnf)
  refine two_ne (fun h=>absurd rfl h) (fun _=>?_)
  conv=>whnf
  refine⟨ns,root,a,e,s,rfl,ta,hc,hb,fun _=>?_,fun h=>absurd h he⟩
  conv=>whnf
  refine⟨ns,root,a,e,s,rfl,ta,kt,hc,hb,fun _=>?_,fun h=>absurd h he⟩
  conv=>whnf
  exact hr _ _ rfl hk
 subst he
 have rt:=right_of (check_right hc)
 have hlen:=rt.len
 have hcnt:=cnt_law rt
 have hel:=end_law rt
 rw [hb] at hcnt hel
 have hcb:=cntB_le (stP' ns) ns.length
 have hclos:=hel.clos
 have hsh:=hel.short
 obtain⟨v1,h1⟩:∃ v,endT s 1 n=v:=⟨_,rfl⟩
 obtain⟨v2,h2⟩:∃ v,endT s 2 n=v:=⟨_,rfl⟩
 obtain⟨v3,h3⟩:∃ v,endT s 3 n=v:=⟨_,rfl⟩
 obtain⟨v4,h4⟩:∃ v,ofT s n=v:=⟨_,rfl⟩
 obtain⟨l,hl⟩:∃ l,afterT s n=l:=⟨_,rfl⟩
 have hll:l.length≤2000:=by
  rw [← hl]
  unfold afterT
  split
  ·rename_i hn
   have g1:=setI_len (nxtS (s.f n.toNat))
   have g2:=hsh n.toNat (by omega)
   have g3:(nxtS (s.f n.toNat)).length≤(s.f n.toNat).nx.length+1:=by unfold nxtS;split<;>simp
   omega
  ·exact Nat.zero_le _
 refine frame0P gFt_ok 19 rfl fun Q hr=>?_
 conv=>whnf
 refine⟨rfl,?_⟩
 conv=>whnf
 refine⟨ns,root,_,rfl,hs,?_⟩
 conv=>whnf
 refine⟨ns,root,n,v,rfl,ta,hv,?_⟩
 conv=>whnf
 repeat ((refine And.intro ?_ ?_);(focus ((conv=>whnf);first|done|exact⟨⟨by omega,by omega,rfl⟩,by conv=>whnf⟩));conv=>whnf)
 refine⟨ns,root,n,v,rfl,ta,kt,hv,?_⟩
 conv=>whnf
 repeat ((refine And.intro ?_ ?_);(focus ((conv=>whnf);first|done|exact⟨⟨by omega,by omega,rfl⟩,by conv=>whnf⟩));conv=>whnf)
 refine two_ne (fun h=>absurd rfl h) (fun _=>?_)
 conv=>whnf
 refine⟨ns,root,a,0,s,rfl,ta,hc,hb,fun h=>absurd rfl h,fun _=>?_⟩
 conv=>whnf
 refine⟨ns,root,a,0,s,rfl,ta,kt,hc,hb,fun h=>absurd rfl h,fun _=>?_⟩
 conv=>whnf
 refine⟨s,n,v1,rfl,by omega,h1,?_⟩
 conv=>whnf
 refine⟨ns,root,s,1,n,v1,_,rfl,rfl,by omega,h1,?_⟩
 conv=>whnf
 refine two_eq (fun _=>?_) (fun h=>absurd rfl h)
 conv=>whnf
 refine⟨s,n,v2,rfl,by omega,h2,?_⟩
 conv=>whnf
 refine⟨ns,root,s,2,n,v2,_,rfl,rfl,by omega,h2,?_⟩
 conv=>whnf
 refine two_eq (fun _=>?_) (fun h=>absurd rfl h)
 conv=>whnf
 refine⟨s,n,v3,rfl,by omega,h3,?_⟩
 conv=>whnf
 refine⟨ns,root,s,3,n,v3,_,rfl,rfl,by omega,h3,?_⟩
 conv=>whnf
 refine two_eq (fun _=>?_) (fun h=>absurd rfl h)
 conv=>whnf
 refine⟨s,n,v4,rfl,by omega,h4,?_⟩
 conv=>whnf
 refine⟨ns,root,s,n,v4,_,rfl,rfl,by omega,h4,?_⟩
 conv=>whnf
 refine two_eq (fun _=>?_) (fun h=>absurd rfl h)
 conv=>whnf
 refine⟨s,n,l,rfl,by omega,hsh,hl,?_⟩
 conv=>whnf
 refine⟨ns,root,s,n,l,_,rfl,rfl,by omega,hclos,hsh,hl,?_⟩
 conv=>whnf
 refine⟨l,l,rfl,rfl,by omega,?_⟩
 conv=>whnf
 refine⟨s,n,rfl,by omega,hsh,hclos,fun l1 hl1=>?_⟩
 conv=>whnf
 refine⟨ns,root,s,n,_,rfl,rfl,by omega,hclos,hsh,fun l2 hl2=>?_⟩
 conv=>whnf
 refine⟨l1,l2,rfl,reach_uniq hl1 hl2,(by have:=hl1.len;omega),?_⟩
 conv=>whnf
 exact hr _ _ rfl hk
end Go.Proofs.YtojjkleplnijaaaGreatDoor
