/-
  On the way to what follows: part 5 of 0.
-/
import Derived.Test.YtcmepkfefoidcaaGreatDoorPk4
set_option linter.unusedVariables false
set_option linter.unusedSimpArgs false
namespace Go.Proofs.YtcmepkfefoidcaaGreatDoor
open Go.AE Go.Ru
set_option maxRecDepth 100000
theorem ent_ok {f:FuncId} (h:∃ fn,T0.f.get f=some fn∧fn.body.isSome=true):Ent Tryz.prog f:=by
 obtain⟨fn,h1,h2⟩:=h
 obtain⟨h3,h4⟩:=tabOk.f f fn h1
 exact⟨fn,h3,h4,h2⟩
theorem kids_bound {w:World} {I:Nat→Prop} {ns:List Nd} {u:Value} (h:VP w I (.sl 5 ns.length (nodeF ns)) u) (i:Nat):(ns.getD i default).kids.length≤9223372036854775807:=by
 by_cases hi:i<ns.length
 ·obtain⟨u,hu⟩:=h.get (i:=i) (j:=4) hi (by simp [nodeF,encNode])
  exact VP.len (show VP w I (.sl 1 (ns.getD i default).kids.length (kidF (ns.getD i default).kids)) u from hu)
 ·rw [List.getD_eq_getElem?_getD,List.getElem?_eq_none (by omega)]
  exact Nat.zero_le _
def natF (l:List Nat) (i:Nat):List PV:=[.int .i64 (l.getD i 0:Nat)]
def natA (l:List Nat):ABlk:=.arr 3 1 0 l.length (fun i=>pvs (natF l i))
def sizesV:Option (List Nat)→AV
 | some l=>.tup [.p (.sl 1 l.length (natF l)),.p (.bool true)]
 | none=>.tup [.p .nils,.p (.bool false)]
def cSizes:AC:=fun args K k=>∃ (ns:List Nd),args=[.p (.sl 5 ns.length (nodeF ns))]∧ns.length≤4000∧k (.ret (sizesV (sizesS ns []))) K
structure RC where
 j:Nat
 size:Nat
 last:Int
def sizK (l:List Nat):List ABlk:=[.box 23 [.p .nils],.box 4 [.p (.bool false)],.box 23 [.slr 3 0 0 l.length],natA l]
theorem natA_snoc (l:List Nat) (x:Nat) (f:Nat→List AV) (hf:f 0=[intV x]):(ABlk.arr 3 1 0 (l.length+1) (catF l.length (fun i=>pvs (natF l i)) f)).le (natA (l++[x])):=by
 refine ABlk.arr_eq (by simp) fun i hi=>?_
 by_cases h:i<l.length
 ·rw [catF_lt h]
  simp [natF,List.getD_eq_getElem?_getD,List.getElem?_append_left h]
 ·obtain rfl:i=l.length:=by omega
  rw [catF_ge (Nat.le_refl _),Nat.sub_self,hf]
  simp [natF,List.getD_eq_getElem?_getD,pvs,intV]
theorem nat_cl (l:List Nat) (x:Nat) (f:Nat→List AV) (n:Nat) (hf:f 0=[intV x]):(ABlk.arr 3 1 0 (l.length+1) (catF l.length (fun i=>pvs (natF l i)) f)).cl n:=fun i hi=>by
 by_cases h:i<l.length
 ·rw [catF_lt h];rfl
 ·obtain rfl:i=l.length:=by omega
  rw [catF_ge (Nat.le_refl _),Nat.sub_self,hf];rfl
theorem sizes_ok:COk 170 cSizes:=by
 rintro args K k ⟨ns,rfl,hn,hk⟩
 refine ACalls.fact (ent_ok ⟨_,rfl,rfl⟩) (c:=∀ i,(ns.getD i default).kids.length≤9223372036854775807) (fun w m Args hS hV=>?_) fun hkid=>?_
 ·have h0:=hV.2 0 (by simp) (by have:=hV.1;simp at this;omega)
  simp only [List.getElem_cons_zero] at h0
  generalize Args[0]'(by have:=hV.1;simp at this;omega)=u at h0
  cases h0 with
  | p _ _ h=>exact kids_bound h
 refine frame0W g0_ok 19 rfl fun Q hr=>?_
 conv=>whnf
 refine loop_nil (ι:=List Nat) 3 1 (fun j=>pvs (natF [] j)) (fun l=>⟨[(2,.ptr 0 0 1 0 0),(3,.ptr 1 0 1 0 0),(4,.ptr 2 0 1 0 0),(11,.p (.sl 5 ns.length (nodeF ns))),(12,.p (.int .i64 ns.length)),(13,.p (.int .i64 l.length))],sizK l⟩)
  (fun l=>l.length≤ns.length∧szOk l∧sizesS (ns.drop l.length) l=sizesS ns []) (fun l=>ns.length - l.length) [] [.box 23 [.p .nils],.box 4 [.p (.bool false)],.box 23 [.slr 3 0 0 0]]
  rfl ⟨.inl (AV.le_refl _),.inl (AV.le_refl _),.inl (AV.le_refl _),.inl (AV.le_refl _),.inl (AV.le_refl _),.inl (AV.le_refl _),trivial⟩
  ⟨.inl (ABlk.le_refl _),.inl (ABlk.le_refl _),.inr ⟨_,_,_,rfl,rfl,.inr ⟨rfl,rfl⟩,trivial⟩,trivial⟩ rfl ⟨Nat.zero_le _,fun i hi=>by simp at hi,rfl⟩ ?_
 rintro Y hle l ⟨hl,hso,he⟩ ih
 have hd:decide ((l.length:Int)<(ns.length:Int))=decide (l.length<ns.length):=by
  by_cases h:l.length<ns.length
  ·rw [decide_eq_true h,decide_eq_true (by omega)]
  ·rw [decide_eq_false h,decide_eq_false (by omega)]
 conv=>whnf
 refine two_intro (fun h=>?_) (fun h=>?_)
 ·rw [hd] at h
  have h:=of_decide_eq_true h
  have hs2:ns.drop l.length=ns[l.length]::ns.drop (l.length+1):=List.drop_eq_getElem_cons h
  have hgd:ns.getD l.length default=ns[l.length]:=by simp [h]
  rw [hs2] at he
  simp only [sizesS] at he
  rw [← hgd] at he
  have hkl:=hkid l.length
  have hwr:IntKind.i64.wrap ((l.length:Int) - 1)=(l.length:Int) - 1:=w64 ⟨by omega,by omega⟩
  have hwk:IntKind.i64.wrap (((ns.getD l.length default).kids.length:Int) - 1)=((ns.getD l.length default).kids.length:Int) - 1:=w64 ⟨by omega,by omega⟩
  conv=>whnf
  refine⟨by simp<;>omega,?_⟩
  conv=>whnf
  refine loop_up (ι:=RC) [0,1] (fun c=>[(3,.p (.int .i64 ((c.j:Int) - 1)))]) (fun c=>[(5,.box 3 [.p (.int .i64 (c.size:Int))]),(6,.box 3 [.p (.int .i64 c.last)])])
   (fun c=>c.j≤(ns.getD l.length default).kids.length∧c.last<l.length∧-1≤c.last∧(c.size:Int)=l.length - c.last ∧
    kidsS l ((ns.getD l.length default).kids.take c.j).reverse c.last c.size=kidsS l (ns.getD l.length default).kids.reverse ((l.length:Int) - 1) 1) (fun c=>c.j) ⟨(ns.getD l.length default).kids.length,1,(l.length:Int) - 1⟩
   ⟨AV.le_of_eq (congrArg (fun x=>AV.p (.int .i64 x)) hwk),trivial⟩ ⟨upLe1 rfl (ABlk.le_refl _),upLe1 rfl (ABlk.le_of_eq (congrArg (fun x=>ABlk.box 3 [.p (.int .i64 x)]) hwr)),trivial⟩
   ⟨Nat.le_refl _,by simp only;omega,by simp only;omega,by simp only;omega,by simp only [List.take_length]⟩ ?_
  rintro Z hlz ⟨j,size,last⟩ ⟨hj,hl1,hl2,hl3,hke⟩ ihz
  simp only at hj hl1 hl2 hl3 hke
  have hdj:decide (((j:Int) - 1)≥0)=decide (0<j):=by
   by_cases h:0<j
   ·rw [decide_eq_true h,decide_eq_true (by omega)]
   ·rw [decide_eq_false h,decide_eq_false (by omega)]
  conv=>whnf
  refine two_intro (fun hjj=>?_) (fun hjj=>?_)
  ·rw [hdj] at hjj
   have hjj:=of_decide_eq_true hjj
   obtain⟨j,rfl⟩:∃ i,j=i+1:=⟨j - 1,by omega⟩
   obtain⟨q,hq⟩:∃ q,(ns.getD l.length default).kids.getD j 0=q:=⟨_,rfl⟩
   have htk:((ns.getD l.length default).kids.take (j+1)).reverse=q::((ns.getD l.length default).kids.take j).reverse:=by
    rw [List.take_add_one,List.reverse_append,← hq]
    have hlt:j<(ns.getD l.length default).kids.length:=by omega
    generalize (ns.getD l.length default).kids=ks at hlt
    rw [List.getD_eq_getElem?_getD,List.getElem?_eq_getElem hlt]
    rfl
   rw [htk] at hke
   simp only [kidsS] at hke
   have hjt:(((j+1:Nat):Int) - 1).toNat=j:=by omega
   have hbad:(q==last&&decide (0≤q))=false→k (.ret (.tup [.p .nils,.p (.bool false)])) K:=fun hb=>by
    rw [hb] at hke
    simp only at hke
    rw [← hke] at he
    simp only at he
    rw [← he] at hk
    exact hk
   conv=>whnf
   refine⟨⟨by show (0:Int)≤((j+1:Nat):Int) - 1;omega,by show ((j+1:Nat):Int) - 1<((ns.getD l.length default).kids.length:Int);omega,rfl⟩,?_⟩
   conv=>whnf
   refine two_intro (fun hne=>?_) (fun hne=>?_)
   ·have hne:((ns.getD l.length default).kids.getD (((j+1:Nat):Int) - 1).toNat 0 != last)=true:=hne
    rw [hjt,hq] at hne
    conv=>whnf
    exact hr _ _ _ _ (Wk1.refl _ _ _) rfl (hbad (by simp at hne;simp [hne]))
   ·have hne:((ns.getD l.length default).kids.getD (((j+1:Nat):Int) - 1).toNat 0 != last)=false:=hne
    rw [hjt,hq] at hne
    conv=>whnf
    refine two_intro (fun hn0=>?_) (fun hn0=>?_)
    ·have hn0:decide ((ns.getD l.length default).kids.getD (((j+1:Nat):Int) - 1).toNat 0<0)=true:=hn0
     rw [hjt,hq] at hn0
     conv=>whnf
     exact hr _ _ _ _ (Wk1.refl _ _ _) rfl (hbad (by have:=of_decide_eq_true hn0;simp [show ¬ (0≤q) by omega]))
    ·have hn0:decide ((ns.getD l.length default).kids.getD (((j+1:Nat):Int) - 1).toNat 0<0)=false:=hn0
     rw [hjt,hq] at hn0
     have hn0:=of_decide_eq_false hn0
     have hql:q=last:=by simpa using hne
     subst hql
     rw [show (q==q&&decide (0≤q))=true by simp;omega] at hke
     simp only at hke
     have hsq:=hso q.toNat (by omega)
     have hC:∀ x:Int,x=q→0≤x∧x<(l.length:Int):=fun x hx=>by subst hx;omega
     have hqe:(ns.getD l.length default).kids.getD (((j+1:Nat):Int) - 1).toNat 0=q:=by rw [hjt,hq]
     conv=>whnf
     refine⟨⟨rfl,Nat.zero_add _,(hC _ hqe).1,(hC _ hqe).2,rfl⟩,?_⟩
     conv=>whnf
     refine⟨⟨rfl,rfl⟩,?_⟩
     conv=>whnf
     refine⟨⟨rfl,Nat.zero_add _,(hC _ hqe).1,(hC _ hqe).2,rfl⟩,?_⟩
     conv=>whnf
     refine⟨⟨rfl,rfl⟩,?_⟩
     conv=>whnf
     have hszq:IntKind.i64.wrap ((size:Int)+(l.getD q.toNat 0:Nat))=((size+l.getD q.toNat 0:Nat):Int):=by rw [w64 ⟨by omega,by omega⟩];omega
     have hlaq:IntKind.i64.wrap (q - (l.getD q.toNat 0:Nat))=q - (l.getD q.toNat 0:Nat):=w64 ⟨by omega,by omega⟩
     have hjq:IntKind.i64.wrap ((((j+1:Nat):Int) - 1) - 1)=(j:Int) - 1:=by rw [w64 ⟨by omega,by omega⟩];omega
     refine hlz _ _ (Le.cutEnv 9 rfl rfl ⟨rfl,rfl,rfl,fun _ _=>rfl,rfl,rfl,rfl,rfl,rfl,trivial⟩
      ?e1 ?e2)
      (ihz ⟨j,size+l.getD q.toNat 0,q - (l.getD q.toNat 0:Nat)⟩ (Nat.lt_succ_self _) ⟨?_,?_,?_,?_,hke⟩)
     case e1 =>
      (conv=>whnf)
      refine⟨AV.le_of_eq (congrArg (fun x=>AV.p (.int .i64 x)) hjq),?_⟩
      (conv=>whnf)
      refine⟨AV.le_refl _,?_⟩
      (conv=>whnf)
      refine⟨AV.le_refl _,?_⟩
      (conv=>whnf)
      exact trivial
     case e2 =>
      (conv=>whnf)
      refine⟨ABlk.le_refl _,?_⟩
      (conv=>whnf)
      refine⟨ABlk.le_refl _,?_⟩
      (conv=>whnf)
      refine⟨ABlk.le_refl _,?_⟩
      (conv=>whnf)
      refine⟨ABlk.le_refl _,?_⟩
      (conv=>whnf)
      refine⟨ABlk.le_refl _,?_⟩
      (conv=>whnf)
      refine⟨ABlk.le_of_eq (congrArg (fun x=>ABlk.box 3 [.p (.int .i64 x)]) (show IntKind.i64.wrap ((size:Int)+(l.getD (0+((ns.getD l.length default).kids.getD (((j+1:Nat):Int) - 1).toNat 0).toNat) 0:Nat))=((size+l.getD q.toNat 0:Nat):Int) by rw [hqe,Nat.zero_add];exact hszq)),?_⟩
      (conv=>whnf)
      refine⟨ABlk.le_of_eq (congrArg (fun x=>ABlk.box 3 [.p (.int .i64 x)]) (show IntKind.i64.wrap ((ns.getD l.length default).kids.getD (((j+1:Nat):Int) - 1).toNat 0 - (l.getD (0+((ns.getD l.length default).kids.getD (((j+1:Nat):Int) - 1).toNat 0).toNat) 0:Nat))=q - (l.getD q.toNat 0:Nat) by rw [hqe,Nat.zero_add];exact hlaq)),?_⟩
      (conv=>whnf)
      refine⟨ABlk.le_refl _,?_⟩
      (conv=>whnf)
      refine⟨ABlk.le_refl _,?_⟩
      (conv=>whnf)
      exact trivial
     ·show j≤_;omega
     ·show q - (l.getD q.toNat 0:Nat)<_;omega
     ·show -1≤q - (l.getD q.toNat 0:Nat);omega
     ·show ((size+l.getD q.toNat 0:Nat):Int)=_ - (q - (l.getD q.toNat 0:Nat));omega
  ·rw [hdj] at hjj
   have hjj:=of_decide_eq_false hjj
   obtain rfl:j=0:=by omega
   simp only [List.take_zero,List.reverse_nil,kidsS] at hke
   rw [← hke] at he
   simp only at he
   have hinv:=kidsS_inv hso _ _ _ size (by omega) (by omega) (by omega) hke.symm
   conv=>whnf
   refine⟨⟨rfl,rfl,rfl,allLt_ok ⟨trivial,rfl⟩⟩,?_⟩
   conv=>whnf
   refine⟨⟨rfl,rfl,rfl,rfl,?_,?_⟩,?_⟩
   ·show (l.length+1)*8≤140737488355328
    omega
   ·show l.length+1≤9223372036854775807
    omega
   conv=>whnf
   refine hle _ _ (Le.cutEnv 4 rfl rfl ⟨rfl,rfl,rfl,nat_cl l size _ 4 rfl,trivial⟩ ?e1 ?e2) (ih (l++[size]) ?_ ⟨?_,szOk_snoc hso hinv,?_⟩)
   case e1 =>
    (conv=>whnf)
    refine⟨AV.le_refl _,?_⟩
    (conv=>whnf)
    refine⟨AV.le_refl _,?_⟩
    (conv=>whnf)
    refine⟨AV.le_refl _,?_⟩
    (conv=>whnf)
    refine⟨AV.le_refl _,?_⟩
    (conv=>whnf)
    refine⟨AV.le_refl _,?_⟩
    (conv=>whnf)
    refine⟨AV.le_of_eq (congrArg (fun x=>AV.p (.int .i64 x)) (show IntKind.i64.wrap ((l.length:Int)+1)=((l++[size]).length:Int) by rw [w64 ⟨by omega,by omega⟩];simp)),?_⟩
    (conv=>whnf)
    exact trivial
   case e2 =>
    (conv=>whnf)
    refine⟨ABlk.le_refl _,?_⟩
    (conv=>whnf)
    refine⟨ABlk.le_refl _,?_⟩
    (conv=>whnf)
    refine⟨ABlk.le_of_eq (congrArg (fun x=>ABlk.box 23 [.slr 3 0 0 x]) (show l.length+1=(l++[size]).length by simp)),?_⟩
    (conv=>whnf)
    refine⟨natA_snoc l size _ rfl,?_⟩
    (conv=>whnf)
    exact trivial
   ·show ns.length - (l++[size]).length<ns.length - l.length
    simp only [List.length_append,List.length_cons,List.length_nil];omega
   ·show (l++[size]).length≤ns.length
    simp only [List.length_append,List.length_cons,List.length_nil];omega
   ·show sizesS (ns.drop (l++[size]).length) (l++[size])=_
    rw [← he]
    simp only [List.length_append,List.length_cons,List.length_nil]
 ·rw [hd] at h
  have h:=of_decide_eq_false h
  rw [List.drop_of_length_le (by omega)] at he
  simp only [sizesS] at he
  rw [← he] at hk
  conv=>whnf
  exact hr _ _ _ _ (Wk1.tup_freeze1 (r:=3) rfl (natF l) (fun _ _=>rfl)) rfl hk
def gR1:AG:=gput 170 cSizes g0
theorem gR1_ok:GOk Tryz.prog gR1:=gput_ok sizes_ok g0_ok
def treeV (ns:List Nd) (root:Int):AV:=.agg [.p (.sl 5 ns.length (nodeF ns)),.p (.int .i64 root)]
def cSound:AC:=fun args K k=>∃ (ns:List Nd) (root:Int),args=[treeV ns root]∧ns.length<1000000∧k (.ret (.p (.bool (soundS ns root)))) K
theorem sound_ok:COk 112 cSound:=by
 rintro args K k ⟨ns,root,rfl,hn,hk⟩
 refine frame0P gR1_ok 19 rfl fun Q hr=>?_
 have hbad:soundS ns root=false→k (.ret (.p (.bool false))) K:=fun h=>by rwa [h] at hk
 have hw:(0:Int)<ns.length→IntKind.i64.wrap ((ns.length:Int) - 1)=(ns.length:Int) - 1:=fun h=>w64 ⟨by omega,by omega⟩
 conv=>whnf
 refine two_intro (fun h1=>?_) (fun h1=>?_)
 ·conv=>whnf
  exact hr _ _ rfl (hbad (by
   have:ns.length=0:=by have:=beq_iff_eq.1 h1;omega
   simp [soundS,this]))
 have h1:0<ns.length:=by
  have:¬ ((ns.length:Int)=0):=by simpa using h1
  omega
 conv=>whnf
 refine two_intro (fun h2=>?_) (fun h2=>?_)
 ·conv=>whnf
  exact hr _ _ rfl (hbad (by
   have:(ns.length:Int)>4000:=of_decide_eq_true h2
   simp [soundS,show 4000<ns.length by omega]))
 have h2:ns.length≤4000:=by
  have:¬ ((ns.length:Int)>4000):=of_decide_eq_false h2
  omega
 conv=>whnf
 refine two_intro (fun h3=>?_) (fun h3=>?_)
 ·have h3:(root != IntKind.i64.wrap ((ns.length:Int) - 1))=true:=h3
  rw [hw (by omega)] at h3
  conv=>whnf
  exact hr _ _ rfl (hbad (by simp only [soundS,h3];simp))
 have h3:(root != IntKind.i64.wrap ((ns.length:Int) - 1))=false:=h3
 rw [hw (by omega)] at h3
 have h4:root=(ns.length:Int) - 1:=by simpa using h3
 conv=>whnf
 refine⟨ns,rfl,h2,?_⟩
 cases hz:sizesS ns [] with
 | none =>
  conv=>whnf
  exact hr _ _ rfl (hbad (by simp [soundS,hz]))
 | some l =>
  obtain⟨hl,_,_⟩:=sizesS_inv ns [] l (fun i hi=>by simp at hi) hz
  simp only [List.length_nil,Nat.zero_add] at hl
  conv=>whnf
  refine⟨⟨by omega,by omega,rfl⟩,?_⟩
  conv=>whnf
  refine hr _ _ rfl ?_
  have e:soundS ns root=(l.getD root.toNat 0==ns.length):=by
   have e1:(ns.length==0)=false:=beq_eq_false_iff_ne.2 (by omega)
   have e2:decide (4000<ns.length)=false:=decide_eq_false (by omega)
   simp only [soundS,hz,h3,e1,e2,Bool.or_self,Bool.not_false,Bool.true_and]
  rw [e] at hk
  have e2:(((l.getD root.toNat 0:Nat):Int)==((l.length:Nat):Int))=(l.getD root.toNat 0==ns.length):=by
   rw [hl]
   by_cases h:l.getD root.toNat 0=ns.length
   ·rw [h];simp
   ·have:¬ ((l.getD root.toNat 0:Nat):Int)=((ns.length:Nat):Int):=by omega
    rw [beq_eq_false_iff_ne.2 this,beq_eq_false_iff_ne.2 h]
  rw [← e2] at hk
  exact hk
def deepK (ns:List Nd) (root:Int):List ABlk:=[.box 40 [.p (.sl 5 ns.length (nodeF ns)),.p (.int .i64 root)],.box 34 [.fn 157 [] [.ptr 0 0 1 0 0,.ptr 1 0 1 0 0]]]
def cDeep (n:Nat):AC:=fun args K k=>∃ (ns:List Nd) (root:Int) (p:Int) (X:List ABlk),args=[.p (.int .i64 p),.ptr 0 0 1 0 0,.ptr 1 0 1 0 0]∧K=deepK ns root++X∧0≤p∧p<n∧p<ns.length∧ns.length≤4000∧n≤4000 ∧
 (∀ j,j<ns.length→∀ k∈(ns.getD j default).kids,0≤k∧k<(j:Int))∧(∀ i,(ns.getD i default).kids.length≤9223372036854775807)∧k (.ret (intV (deepS ns n p))) (deepK ns root++X)
structure DC where
 j:Nat
 d:Nat
theorem deep_ok (n:Nat):COk 157 (cDeep n):=by
 induction n with
 | zero=>rintro args K k ⟨ns,root,p,X,rfl,rfl,h1,h2,_⟩;omega
 | succ n ihn =>
 rintro args K k ⟨ns,root,p,X,rfl,rfl,h1,h2,h3,h4,h5,hsd,hkid,hk⟩
 refine frameS (K0:=deepK ns root) (gput_ok ihn g0_ok) 19 rfl ⟨rfl,rfl,trivial⟩ fun Q hr=>?_
 have hkl:=hkid p.toNat
 conv=>whnf
 refine⟨⟨by omega,by omega,rfl⟩,?_⟩
 conv=>whnf
 obtain⟨ks,hks⟩:∃ ks,(ns.getD p.toNat default).kids=ks:=⟨_,rfl⟩
 have hmem:=hsd p.toNat (by omega)
 simp only [deepS] at hk
 rw [hks] at hkl hmem hk
 refine loop_up (ι:=DC) [1,2,13,14] (fun c=>[(5,.p (.int .i64 (c.d:Int))),(15,.p (.int .i64 (c.j:Int)))]) (fun _=>[])
  (fun c=>c.j≤ks.length∧c.d≤n∧(ks.drop c.j).foldl (fun d k=>max d (deepS ns n k)) c.d=ks.foldl (fun d k=>max d (deepS ns n k)) 0) (fun c=>ks.length - c.j) ⟨0,0⟩
  ⟨AV.le_refl _,AV.le_refl _,trivial⟩ trivial ⟨Nat.zero_le _,Nat.zero_le _,rfl⟩ ?_
 rintro Y hle ⟨j,d⟩ ⟨hj,hd,he⟩ ih
 simp only at hj hd he
 have hdj:decide ((j:Int)<((ns.getD p.toNat default).kids.length:Int))=decide (j<ks.length):=by
  rw [hks]
  by_cases h:j<ks.length
  ·rw [decide_eq_true h,decide_eq_true (by omega)]
  ·rw [decide_eq_false h,decide_eq_false (by omega)]
 conv=>whnf
 refine two_intro (fun h=>?_) (fun h=>?_)
 ·have h:=of_decide_eq_true (hdj▸h)
  have hq:(ns.getD p.toNat default).kids.getD (j:Int).toNat 0=ks[j]:=by rw [hks];simp [h]
  have hqm:=hmem ks[j] (List.getElem_mem h)
  rw [List.drop_eq_getElem_cons h,List.foldl_cons] at he
  conv=>whnf
  refine⟨⟨by omega,by rw [hks];show (j:Int)<(ks.length:Int);omega,rfl⟩,?_⟩
  conv=>whnf
  refine⟨ns,root,_,[],rfl,rfl,by rw [hq];omega,by rw [hq];omega,by rw [hq];omega,h4,by omega,hsd,hkid,?_⟩
  conv=>whnf
  have hdl:=deepS_le ns n ks[j]
  refine hle _ _ (Le.cutEnv 2 rfl rfl ⟨rfl,rfl,trivial⟩ ?e1 ?e2) (ih ⟨j+1,max d (deepS ns n ks[j])⟩ ?_ ⟨?_,?_,he⟩)
  case e1 =>
   have hmx:(if ((deepS ns n ((ns.getD p.toNat default).kids.getD (j:Int).toNat 0):Nat):Int)>(d:Int) then ((deepS ns n ((ns.getD p.toNat default).kids.getD (j:Int).toNat 0):Nat):Int) else (d:Int))=((max d (deepS ns n ks[j]):Nat):Int):=by
    rw [hq]
    split<;>omega
   (conv=>whnf)
   refine⟨AV.le_of_eq (congrArg (fun x=>AV.p (.int .i64 x)) hmx),?_⟩
   (conv=>whnf)
   refine⟨AV.le_of_eq (congrArg (fun x=>AV.p (.int .i64 x)) (show IntKind.i64.wrap ((j:Int)+1)=((j+1:Nat):Int) by rw [w64 ⟨by omega,by omega⟩];omega)),?_⟩
   (conv=>whnf)
   refine⟨AV.le_refl _,?_⟩
   (conv=>whnf)
   refine⟨AV.le_refl _,?_⟩
   (conv=>whnf)
   refine⟨AV.le_refl _,?_⟩
   (conv=>whnf)
   refine⟨AV.le_refl _,?_⟩
   (conv=>whnf)
   exact trivial
  case e2 =>
   (conv=>whnf)
   refine⟨ABlk.le_refl _,?_⟩
   (conv=>whnf)
   refine⟨ABlk.le_refl _,?_⟩
   (conv=>whnf)
   exact trivial
  ·show ks.length - (j+1)<ks.length - j
   omega
  ·show j+1≤ks.length
   omega
  ·exact Nat.max_le.2 ⟨hd,hdl⟩
 ·have h:=of_decide_eq_false (hdj▸h)
  rw [List.drop_of_length_le (by omega),List.foldl_nil] at he
  have hw:IntKind.i64.wrap ((d:Int)+1)=((ks.foldl (fun d k=>max d (deepS ns n k)) 0+1:Nat):Int):=by rw [w64 ⟨by omega,by omega⟩];omega
  rw [← hw] at hk
  conv=>whnf
  exact hr _ _ rfl (Nat.le_refl _) rfl hk
def gR2:AG:=gput 112 cSound (gput 157 (cDeep 4000) g0)
theorem gR2_ok:GOk Tryz.prog gR2:=gput_ok sound_ok (gput_ok (deep_ok 4000) g0_ok)
def cDepth:AC:=fun args K k=>∃ (ns:List Nd) (root:Int),args=[treeV ns root]∧ns.length<1000000∧k (.ret (intV (depthS ns root))) K
theorem deepS_more (ns:List Nd) (hsd:∀ j,j<ns.length→∀ k∈(ns.getD j default).kids,0≤k∧k<(j:Int)):∀ (n m:Nat) (p:Int),0≤p→p<n→p<ns.length→n≤m→deepS ns n p=deepS ns m p:=by
 intro n
 induction n with
 | zero=>intro m p h1 h2;omega
 | succ n ih =>
  intro m p h1 h2 h3 hm
  obtain⟨m,rfl⟩:∃ i,m=i+1:=⟨m - 1,by omega⟩
  simp only [deepS]
  have hk:=hsd p.toNat (by omega)
  generalize (ns.getD p.toNat default).kids=ks at hk
  have:∀ d,ks.foldl (fun d k=>max d (deepS ns n k)) d=ks.foldl (fun d k=>max d (deepS ns m k)) d:=by
   induction ks with
   | nil=>intro d;rfl
   | cons q ks ihk =>
    intro d
    have hq:=hk q (List.mem_cons_self ..)
    simp only [List.foldl_cons]
    rw [ih m q (by omega) (by omega) (by omega) (by omega)]
    exact ihk (fun k hk'=>hk k (List.mem_cons_of_mem _ hk')) _
  rw [this]
theorem depth_ok:COk 105 cDepth:=by
 rintro args K k ⟨ns,root,rfl,hn,hk⟩
 refine ACalls.fact (ent_ok ⟨_,rfl,rfl⟩) (c:=∀ i,(ns.getD i default).kids.length≤9223372036854775807) (fun w m Args hS hV=>?_) fun hkid=>?_
 ·have h0:=hV.2 0 (by simp) (by have:=hV.1;simp at this;omega)
  simp only [List.getElem_cons_zero,treeV] at h0
  generalize Args[0]'(by have:=hV.1;simp at this;omega)=u at h0
  cases h0 with
  | agg cs A hA h =>
   have h1:=h 0 (by simp) (by simp at hA;omega)
   simp only [List.getElem_cons_zero] at h1
   generalize A[0]'(by simp at hA;omega)=u1 at h1
   cases h1 with
   | p _ _ h=>exact kids_bound h
 refine frame0P gR2_ok 19 rfl fun Q hr=>?_
 conv=>whnf
 refine⟨ns,root,rfl,hn,?_⟩
 cases hs:soundS ns root with
 | false =>
  conv=>whnf
  simp only [depthS,hs] at hk
  exact hr _ _ rfl hk
 | true =>
  obtain⟨h1,h2,h3,h4⟩:=soundS_ok hs
  conv=>whnf
  refine⟨ns,root,root,[],rfl,rfl,by omega,by omega,by omega,h2,Nat.le_refl _,h4,hkid,?_⟩
  simp only [depthS,hs] at hk
  rw [deepS_more ns h4 ns.length 4000 root (by omega) (by omega) (by omega) h2] at hk
  conv=>whnf
  exact hr _ _ rfl hk
end Go.Proofs.YtcmepkfefoidcaaGreatDoor
namespace Go.AE
theorem two_dec {p:Prop} [Decidable p] {x y:Prop} (h:p→x) (h':¬p→y):two (decide p) x y :=
 two_intro (fun e=>h (of_decide_eq_true e)) (fun e=>h' (of_decide_eq_false e))
theorem two_eq {α:Type} [BEq α] [LawfulBEq α] {a b:α} {x y:Prop} (h:a=b→x) (h':a≠b→y):two (a==b) x y :=
 two_intro (fun e=>h (beq_iff_eq.1 e)) (fun e=>h' (beq_eq_false_iff_ne.1 e))
theorem two_ne {α:Type} [BEq α] [LawfulBEq α] {a b:α} {x y:Prop} (h:a≠b→x) (h':a=b→y):two (a != b) x y :=
 two_intro (fun e=>h (by simpa using e)) (fun e=>h' (by simpa using e))
theorem two_not {b:Bool} {x y:Prop} (h:b=false→x) (h':b=true→y):two (!b) x y :=
 two_intro (fun e=>h (by simpa using e)) (fun e=>h' (by simpa using e))
theorem ret_eq {k:AO→List ABlk→Prop} {K:List ABlk} {a b:AV} (hk:k (.ret a) K) (h:a=b):k (.ret b) K:=h▸hk
end Go.AE
namespace Go.Proofs.YtcmepkfefoidcaaGreatDoor
open Go.AE Go.Ru
set_option maxRecDepth 100000
set_option maxHeartbeats 1000000
def nodeV (n:Nd):AV:=.agg [.p (.int .i64 n.k),.p (.int .i64 n.n),.p (.int .i64 n.at_),.p (.str n.tx),.p (.sl 1 n.kids.length (kidF n.kids))]
def gN:AG:=gput 172 cIdentT gL
theorem gN_ok:GOk Tryz.prog gN:=gput_ok identT_ok gL_ok
def cNumber:AC:=fun args K k=>∃ n,args=[nodeV n]∧k (.ret (.p (.bool (numberS n.k n.n)))) K
theorem number_ok:COk 116 cNumber:=by
  rintro args K k ⟨n,rfl,hk⟩
  refine frame0P gN_ok 19 rfl fun Q hr=>?_
  conv=>whnf
  repeat' (first|((first|refine two_eq ?_ ?_|refine two_ne ?_ ?_|refine two_not ?_ ?_|refine two_dec ?_ ?_|refine two_intro ?_ ?_)<;>intro h<;>conv=>whnf)|((first|refine Chk.mk ?_ ?_|refine And.intro ?_ ?_);(focus (((repeat' (refine And.intro ?_ ?_))<;>(first|omega|rfl|(simp only [List.length_append,List.length_cons,List.length_nil];omega)|fail));done));conv=>whnf)|(refine Exists.intro _ (And.intro rfl ?_))|(refine Exists.intro _ (Exists.intro _ (And.intro rfl ?_)))|(refine Exists.intro _ (Exists.intro _ (Exists.intro _ (And.intro rfl ?_))))|fail)
  all_goals exact hr _ _ rfl (ret_eq hk (by simp [numberS, *]))
def cText:AC:=fun args K k=>∃ n,args=[nodeV n]∧n.tx.length<1000000∧k (.ret (.p (.bool (textS n.k n.tx)))) K
theorem text_ok:COk 115 cText:=by
  rintro args K k ⟨n,rfl,hl,hk⟩
  refine frame0P gN_ok 19 rfl fun Q hr=>?_
  conv=>whnf
  repeat' (first|((first|refine two_eq ?_ ?_|refine two_ne ?_ ?_|refine two_not ?_ ?_|refine two_dec ?_ ?_|refine two_intro ?_ ?_)<;>intro h<;>conv=>whnf)|((first|refine Chk.mk ?_ ?_|refine And.intro ?_ ?_);(focus (((repeat' (refine And.intro ?_ ?_))<;>(first|omega|rfl|(simp only [List.length_append,List.length_cons,List.length_nil];omega)|fail));done));conv=>whnf)|(refine Exists.intro _ (And.intro rfl ?_))|(refine Exists.intro _ (Exists.intro _ (And.intro rfl ?_)))|(refine Exists.intro _ (Exists.intro _ (Exists.intro _ (And.intro rfl ?_))))|fail)
  all_goals exact hr _ _ rfl (ret_eq hk (by clear hr hk;(first|(simp_all [textS,signedP,signsT,show (Int.toNat 32).toUInt8=32 from rfl];done)|(simp_all [textS,signedP,signsT,show (Int.toNat 32).toUInt8=32 from rfl]<;>(try intros)<;>omega))))
theorem frameG {G:AG} (hG:GOk Tryz.prog G) (n:Nat) {f:FuncId} {args:List AV} {K0 X:List ABlk} {k:AO→List ABlk→Prop} (hcl:AV.cls K0.length args=true) (hK:clK K0.length K0)
    (h:∀ Q:AO→List ABlk→Prop,(∀ v K' v' K1,v'.cl K0.length=true→K1.length=K0.length→clK K0.length K1→v.le v'→lesK (takeN K' K0.length) K1→k (.ret v') (K1++X)→Q (.ret v) K')→acall1 T0 G n f args K0 Q) :
    ACalls Tryz.prog f args (K0++X) k:=by
  refine (ACalls.frame (K0:=K0) (k:=fun ao K1=>k ao (K1++X)) hcl (fun r _=>clK.hp hK r)
    (ACalls.post (k:=fun ao K1=>∃ v K' v' K2,ao=.ret v∧K1=K'∧v'.cl K0.length=true∧K2.length=K0.length∧clK K0.length K2∧v.le v'∧lesK (takeN K' K0.length) K2∧k (.ret v') (K2++X)) (call_ok hG n f args _ _ (h _ ?_)) ?_)).mono ?_
  · intro v K' v' K1 h1 h2 h3 h4 h5 h6
    exact⟨v,K',v',K1,rfl,rfl,h1,h2,h3,h4,h5,h6⟩
  · rintro _ K' ⟨v,_,v',K2,rfl,rfl,h1,h2,h3,h4,h5,h6⟩
    have e:∀ (K2 L:List ABlk),takeN (K2++L) K2.length=K2:=fun K2 L=>by
      induction K2 with
      | nil=>exact takeN_zero _
      | cons a l ih=>simp only [List.cons_append,List.length_cons,takeN];rw [ih]
    have e:=e K2 (dropN K' K0.length)
    rw [h2] at e
    refine⟨v',K2++dropN K' K0.length,Wk1.le h4 h5.head,h1,?_,fun r hr=>?_,?_⟩
    · simp [h2]
    · rw [hp_append,if_pos (by omega)];exact clK.hp h3 r
    · show k (.ret v') (takeN _ K0.length++X)
      rw [e];exact h6
  · rintro ao K ⟨K1,rfl,h⟩;exact h
def kidsK (ns:List Nd) (root:Int) (n:Nd) (i:Int):List ABlk:=[.box 40 [.p (.sl 5 ns.length (nodeF ns)),.p (.int .i64 root)],.box 82 [.p (.int .i64 n.k),.p (.int .i64 n.n),.p (.int .i64 n.at_),.p (.str n.tx),.p (.sl 1 n.kids.length (kidF n.kids))],.box 3 [intV i]]
def ibox (c:Int):ABlk:=.box 3 [intV c]
def SoV (so:AV) (p:Int→Bool) (X:List ABlk):Prop:=(so=.p (.fn 178)∧p=stB∧(X=[]∨∃ a,X=[ibox a]))∨(so=.p (.fn 179)∧p=exB∧(X=[]∨∃ a,X=[ibox a])) ∨
  ∃ c,p=(fun k=>k==c)∧((so=.fn 176 [] [.ptr 3 0 1 0 0]∧X=[ibox c])∨(∃ a,so=.fn 176 [] [.ptr 4 0 1 0 0]∧X=[ibox a,ibox c])∨∃ a b,so=.fn 176 [] [.ptr 5 0 1 0 0]∧X=[ibox a,ibox b,ibox c])
def cTakeK:AC:=fun args K k=>∃ (ns:List Nd) (root:Int) (n:Nd) (i m:Nat) (ii mm:Int) (so:AV) (p:Int→Bool) (X:List ABlk),args=[.p (.int .i64 mm),so,.ptr 2 0 1 0 0,.ptr 1 0 1 0 0,.ptr 0 0 1 0 0]∧K=kidsK ns root n ii++X∧ii=i∧mm=m∧m≤4000∧n.kids.length≤4000 ∧
  (∀ q∈n.kids,0≤q∧q<ns.length)∧SoV so p X∧k (.ret (intV (cntS p m ((kindsS ns n).drop i)))) (kidsK ns root n ((i+cntS p m ((kindsS ns n).drop i):Nat):Int)++X)
theorem take_ok':COk 174 cTakeK:=by
  rintro args K k ⟨ns,root,n,i,m,ii,mm,so,p,X,rfl,rfl,rfl,rfl,hm,hn,hq,hso,hk⟩
  rcases hso with ⟨rfl,rfl,rfl|⟨a,rfl⟩⟩|⟨rfl,rfl,rfl|⟨a,rfl⟩⟩|⟨c,rfl,⟨rfl,rfl⟩|⟨a,rfl,rfl⟩|⟨a,b,rfl,rfl⟩⟩
  · skip
    refine frameG (K0:=kidsK ns root n i) (X:=[]) gN_ok 19 rfl (by repeat' (first|exact trivial|exact rfl|(refine And.intro ?_ ?_)|fail)) fun Q hr=>?_
    conv=>whnf
    refine loop_up (ι:=Nat) [0,1,2,3,4,8] (fun _=>[]) (fun j=>[(2,.box 3 [.p (.int .i64 ((i+j:Nat):Int))])])
      (fun j=>j≤m∧(j=0∨i+j≤n.kids.length)∧cntS stB m ((kindsS ns n).drop i)=j+cntS stB (m - j) ((kindsS ns n).drop (i+j))) (fun j=>n.kids.length - (i+j)) 0 trivial ⟨upLe1 rfl (ABlk.le_refl _),trivial⟩ ⟨Nat.zero_le _,.inl rfl,by simp⟩ ?_
    rintro Y hle j ⟨hj,hij,he⟩ ih
    have hw:IntKind.i64.wrap (((i+j:Nat):Int) - (i:Int))=j:=by rw [w64 ⟨by omega,by omega⟩];omega
    have hw1:i+j<n.kids.length→IntKind.i64.wrap (((i+j:Nat):Int)+1)=((i+(j+1):Nat):Int):=fun h=>by rw [w64 ⟨by omega,by omega⟩];omega
    have hg:i+j<n.kids.length→0≤n.kids.getD ((i+j:Nat):Int).toNat 0∧n.kids.getD ((i+j:Nat):Int).toNat 0<ns.length:=fun h=>hq _ (by rw [Int.toNat_natCast,List.getD_eq_getElem?_getD,List.getElem?_eq_getElem h];exact List.getElem_mem h)
    have hkd:i+j<n.kids.length→(kindsS ns n).drop (i+j)=(ns.getD (n.kids.getD ((i+j:Nat):Int).toNat 0).toNat default).k::(kindsS ns n).drop (i+(j+1)):=fun h=>by
      have h2:i+j<(kindsS ns n).length:=by simpa [kindsS] using h
      have e:(kindsS ns n)[i+j]=(ns.getD (n.kids.getD (i+j) 0).toNat default).k:=by simp [kindsS,h]
      rw [List.drop_eq_getElem_cons h2,e,Int.toNat_natCast,Nat.add_assoc]
    have hend:n.kids.length≤i+j→(kindsS ns n).drop (i+j)=[]:=fun h=>List.drop_of_length_le (by simpa [kindsS] using h)
    conv=>whnf
    repeat' (first|((first|refine two_eq ?_ ?_|refine two_ne ?_ ?_|refine two_not ?_ ?_|refine two_dec ?_ ?_|refine two_intro ?_ ?_)<;>intro h<;>conv=>whnf)|((first|refine Chk.mk ?_ ?_|refine And.intro ?_ ?_);(focus (((repeat' (refine And.intro ?_ ?_))<;>(first|omega|rfl|(simp only [List.length_append,List.length_cons,List.length_nil];omega)|fail));done));conv=>whnf)|(refine Exists.intro _ (And.intro rfl ?_))|(refine Exists.intro _ (Exists.intro _ (And.intro rfl ?_)))|(refine Exists.intro _ (Exists.intro _ (Exists.intro _ (And.intro rfl ?_))))|fail)
    all_goals first
    | (have h0:cntS stB (m - j) ((kindsS ns n).drop (i+j))=0:=by
        first
        | (rw [hend (by omega)];cases (m - j)<;>rfl)
        | (rw [show m - j=0 by omega];rfl)
        | (rw [hkd (by omega),show m - j=(m - j - 1)+1 by omega,cnt_f];(simp only [stB,exB,Bool.and_eq_true,Bool.and_eq_false_iff,decide_eq_true_eq,decide_eq_false_iff_not,beq_iff_eq,beq_eq_false_iff_ne];omega))
        | fail
       have he:cntS stB m ((kindsS ns n).drop i)=j:=by rw [he,h0];rfl
       rw [he] at hk
       exact hr _ _ (intV (j:Int)) (kidsK ns root n ((i+j:Nat):Int)++[]) rfl rfl (by repeat' (first|exact trivial|exact rfl|(refine And.intro ?_ ?_)|fail)) (AV.le_of_eq (congrArg intV hw)) (lesK.refl _) (by rw [List.append_nil];exact hk))
    | (have hw1:=hw1 (by omega)
       refine hle _ _ (Le.env ?_ ?_) (ih (j+1) (by omega) ⟨by omega,by omega,?_⟩)
       · skip
         repeat' (first|exact trivial|((conv=>whnf);first|exact trivial|refine⟨AV.le_refl _,?_⟩|refine⟨ABlk.le_refl _,?_⟩|fail)|fail)
       · skip
         repeat' (first|exact trivial|((conv=>whnf);first|exact trivial|refine⟨AV.le_refl _,?_⟩|refine⟨ABlk.le_refl _,?_⟩|(refine⟨AV.le_of_eq ?_,?_⟩;focus ((first|exact congrArg (fun x=>ABlk.box 3 [.p (.int .i64 x)]) hw1|fail);done))|(refine⟨ABlk.le_of_eq ?_,?_⟩;focus ((first|exact congrArg (fun x=>ABlk.box 3 [.p (.int .i64 x)]) hw1|fail);done))|fail)|fail)
       · rw [he,hkd (by omega),show m - j=(m - (j+1))+1 by omega,cnt_t (by (simp only [stB,exB,Bool.and_eq_true,Bool.and_eq_false_iff,decide_eq_true_eq,decide_eq_false_iff_not,beq_iff_eq,beq_eq_false_iff_ne];omega))];omega)
    | fail
  · skip
    refine frameG (K0:=kidsK ns root n i++[ibox a]) (X:=[]) gN_ok 19 rfl (by repeat' (first|exact trivial|exact rfl|(refine And.intro ?_ ?_)|fail)) fun Q hr=>?_
    conv=>whnf
    refine loop_up (ι:=Nat) [0,1,2,3,4,8] (fun _=>[]) (fun j=>[(2,.box 3 [.p (.int .i64 ((i+j:Nat):Int))])])
      (fun j=>j≤m∧(j=0∨i+j≤n.kids.length)∧cntS stB m ((kindsS ns n).drop i)=j+cntS stB (m - j) ((kindsS ns n).drop (i+j))) (fun j=>n.kids.length - (i+j)) 0 trivial ⟨upLe1 rfl (ABlk.le_refl _),trivial⟩ ⟨Nat.zero_le _,.inl rfl,by simp⟩ ?_
    rintro Y hle j ⟨hj,hij,he⟩ ih
    have hw:IntKind.i64.wrap (((i+j:Nat):Int) - (i:Int))=j:=by rw [w64 ⟨by omega,by omega⟩];omega
    have hw1:i+j<n.kids.length→IntKind.i64.wrap (((i+j:Nat):Int)+1)=((i+(j+1):Nat):Int):=fun h=>by rw [w64 ⟨by omega,by omega⟩];omega
    have hg:i+j<n.kids.length→0≤n.kids.getD ((i+j:Nat):Int).toNat 0∧n.kids.getD ((i+j:Nat):Int).toNat 0<ns.length:=fun h=>hq _ (by rw [Int.toNat_natCast,List.getD_eq_getElem?_getD,List.getElem?_eq_getElem h];exact List.getElem_mem h)
    have hkd:i+j<n.kids.length→(kindsS ns n).drop (i+j)=(ns.getD (n.kids.getD ((i+j:Nat):Int).toNat 0).toNat default).k::(kindsS ns n).drop (i+(j+1)):=fun h=>by
      have h2:i+j<(kindsS ns n).length:=by simpa [kindsS] using h
      have e:(kindsS ns n)[i+j]=(ns.getD (n.kids.getD (i+j) 0).toNat default).k:=by simp [kindsS,h]
      rw [List.drop_eq_getElem_cons h2,e,Int.toNat_natCast,Nat.add_assoc]
    have hend:n.kids.length≤i+j→(kindsS ns n).drop (i+j)=[]:=fun h=>List.drop_of_length_le (by simpa [kindsS] using h)
    conv=>whnf
    repeat' (first|((first|refine two_eq ?_ ?_|refine two_ne ?_ ?_|refine two_not ?_ ?_|refine two_dec ?_ ?_|refine two_intro ?_ ?_)<;>intro h<;>conv=>whnf)|((first|refine Chk.mk ?_ ?_|refine And.intro ?_ ?_);(focus (((repeat' (refine And.intro ?_ ?_))<;>(first|omega|rfl|(simp only [List.length_append,List.length_cons,List.length_nil];omega)|fail));done));conv=>whnf)|(refine Exists.intro _ (And.intro rfl ?_))|(refine Exists.intro _ (Exists.intro _ (And.intro rfl ?_)))|(refine Exists.intro _ (Exists.intro _ (Exists.intro _ (And.intro rfl ?_))))|fail)
    all_goals first
    | (have h0:cntS stB (m - j) ((kindsS ns n).drop (i+j))=0:=by
        first
        | (rw [hend (by omega)];cases (m - j)<;>rfl)
        | (rw [show m - j=0 by omega];rfl)
        | (rw [hkd (by omega),show m - j=(m - j - 1)+1 by omega,cnt_f];(simp only [stB,exB,Bool.and_eq_true,Bool.and_eq_false_iff,decide_eq_true_eq,decide_eq_false_iff_not,beq_iff_eq,beq_eq_false_iff_ne];omega))
        | fail
       have he:cntS stB m ((kindsS ns n).drop i)=j:=by rw [he,h0];rfl
       rw [he] at hk
       exact hr _ _ (intV (j:Int)) (kidsK ns root n ((i+j:Nat):Int)++[ibox a]) rfl rfl (by repeat' (first|exact trivial|exact rfl|(refine And.intro ?_ ?_)|fail)) (AV.le_of_eq (congrArg intV hw)) (lesK.refl _) (by rw [List.append_nil];exact hk))
    | (have hw1:=hw1 (by omega)
       refine hle _ _ (Le.env ?_ ?_) (ih (j+1) (by omega) ⟨by omega,by omega,?_⟩)
       · skip
         repeat' (first|exact trivial|((conv=>whnf);first|exact trivial|refine⟨AV.le_refl _,?_⟩|refine⟨ABlk.le_refl _,?_⟩|fail)|fail)
       · skip
         repeat' (first|exact trivial|((conv=>whnf);first|exact trivial|refine⟨AV.le_refl _,?_⟩|refine⟨ABlk.le_refl _,?_⟩|(refine⟨AV.le_of_eq ?_,?_⟩;focus ((first|exact congrArg (fun x=>ABlk.box 3 [.p (.int .i64 x)]) hw1|fail);done))|(refine⟨ABlk.le_of_eq ?_,?_⟩;focus ((first|exact congrArg (fun x=>ABlk.box 3 [.p (.int .i64 x)]) hw1|fail);done))|fail)|fail)
       · rw [he,hkd (by omega),show m - j=(m - (j+1))+1 by omega,cnt_t (by (simp only [stB,exB,Bool.and_eq_true,Bool.and_eq_false_iff,decide_eq_true_eq,decide_eq_false_iff_not,beq_iff_eq,beq_eq_false_iff_ne];omega))];omega)
    | fail
  · skip
    refine frameG (K0:=kidsK ns root n i) (X:=[]) gN_ok 19 rfl (by repeat' (first|exact trivial|exact rfl|(refine And.intro ?_ ?_)|fail)) fun Q hr=>?_
    conv=>whnf
    refine loop_up (ι:=Nat) [0,1,2,3,4,8] (fun _=>[]) (fun j=>[(2,.box 3 [.p (.int .i64 ((i+j:Nat):Int))])])
      (fun j=>j≤m∧(j=0∨i+j≤n.kids.length)∧cntS exB m ((kindsS ns n).drop i)=j+cntS exB (m - j) ((kindsS ns n).drop (i+j))) (fun j=>n.kids.length - (i+j)) 0 trivial ⟨upLe1 rfl (ABlk.le_refl _),trivial⟩ ⟨Nat.zero_le _,.inl rfl,by simp⟩ ?_
    rintro Y hle j ⟨hj,hij,he⟩ ih
    have hw:IntKind.i64.wrap (((i+j:Nat):Int) - (i:Int))=j:=by rw [w64 ⟨by omega,by omega⟩];omega
    have hw1:i+j<n.kids.length→IntKind.i64.wrap (((i+j:Nat):Int)+1)=((i+(j+1):Nat):Int):=fun h=>by rw [w64 ⟨by omega,by omega⟩];omega
    have hg:i+j<n.kids.length→0≤n.kids.getD ((i+j:Nat):Int).toNat 0∧n.kids.getD ((i+j:Nat):Int).toNat 0<ns.length:=fun h=>hq _ (by rw [Int.toNat_natCast,List.getD_eq_getElem?_getD,List.getElem?_eq_getElem h];exact List.getElem_mem h)
    have hkd:i+j<n.kids.length→(kindsS ns n).drop (i+j)=(ns.getD (n.kids.getD ((i+j:Nat):Int).toNat 0).toNat default).k::(kindsS ns n).drop (i+(j+1)):=fun h=>by
      have h2:i+j<(kindsS ns n).length:=by simpa [kindsS] using h
      have e:(kindsS ns n)[i+j]=(ns.getD (n.kids.getD (i+j) 0).toNat default).k:=by simp [kindsS,h]
      rw [List.drop_eq_getElem_cons h2,e,Int.toNat_natCast,Nat.add_assoc]
    have hend:n.kids.length≤i+j→(kindsS ns n).drop (i+j)=[]:=fun h=>List.drop_of_length_le (by simpa [kindsS] using h)
    conv=>whnf
    repeat' (first|((first|refine two_eq ?_ ?_|refine two_ne ?_ ?_|refine two_not ?_ ?_|refine two_dec ?_ ?_|refine two_intro ?_ ?_)<;>intro h<;>conv=>whnf)|((first|refine Chk.mk ?_ ?_|refine And.intro ?_ ?_);(focus (((repeat' (refine And.intro ?_ ?_))<;>(first|omega|rfl|(simp only [List.length_append,List.length_cons,List.length_nil];omega)|fail));done));conv=>whnf)|(refine Exists.intro _ (And.intro rfl ?_))|(refine Exists.intro _ (Exists.intro _ (And.intro rfl ?_)))|(refine Exists.intro _ (Exists.intro _ (Exists.intro _ (And.intro rfl ?_))))|fail)
    all_goals first
    | (have h0:cntS exB (m - j) ((kindsS ns n).drop (i+j))=0:=by
        first
        | (rw [hend (by omega)];cases (m - j)<;>rfl)
        | (rw [show m - j=0 by omega];rfl)
        | (rw [hkd (by omega),show m - j=(m - j - 1)+1 by omega,cnt_f];(simp only [stB,exB,Bool.and_eq_true,Bool.and_eq_false_iff,decide_eq_true_eq,decide_eq_false_iff_not,beq_iff_eq,beq_eq_false_iff_ne];omega))
        | fail
       have he:cntS exB m ((kindsS ns n).drop i)=j:=by rw [he,h0];rfl
       rw [he] at hk
       exact hr _ _ (intV (j:Int)) (kidsK ns root n ((i+j:Nat):Int)++[]) rfl rfl (by repeat' (first|exact trivial|exact rfl|(refine And.intro ?_ ?_)|fail)) (AV.le_of_eq (congrArg intV hw)) (lesK.refl _) (by rw [List.append_nil];exact hk))
    | (have hw1:=hw1 (by omega)
       refine hle _ _ (Le.env ?_ ?_) (ih (j+1) (by omega) ⟨by omega,by omega,?_⟩)
       · skip
         repeat' (first|exact trivial|((conv=>whnf);first|exact trivial|refine⟨AV.le_refl _,?_⟩|refine⟨ABlk.le_refl _,?_⟩|fail)|fail)
       · skip
         repeat' (first|exact trivial|((conv=>whnf);first|exact trivial|refine⟨AV.le_refl _,?_⟩|refine⟨ABlk.le_refl _,?_⟩|(refine⟨AV.le_of_eq ?_,?_⟩;focus ((first|exact congrArg (fun x=>ABlk.box 3 [.p (.int .i64 x)]) hw1|fail);done))|(refine⟨ABlk.le_of_eq ?_,?_⟩;focus ((first|exact congrArg (fun x=>ABlk.box 3 [.p (.int .i64 x)]) hw1|fail);done))|fail)|fail)
       · rw [he,hkd (by omega),show m - j=(m - (j+1))+1 by omega,cnt_t (by (simp only [stB,exB,Bool.and_eq_true,Bool.and_eq_false_iff,decide_eq_true_eq,decide_eq_false_iff_not,beq_iff_eq,beq_eq_false_iff_ne];omega))];omega)
    | fail
  · skip
    refine frameG (K0:=kidsK ns root n i++[ibox a]) (X:=[]) gN_ok 19 rfl (by repeat' (first|exact trivial|exact rfl|(refine And.intro ?_ ?_)|fail)) fun Q hr=>?_
    conv=>whnf
    refine loop_up (ι:=Nat) [0,1,2,3,4,8] (fun _=>[]) (fun j=>[(2,.box 3 [.p (.int .i64 ((i+j:Nat):Int))])])
      (fun j=>j≤m∧(j=0∨i+j≤n.kids.length)∧cntS exB m ((kindsS ns n).drop i)=j+cntS exB (m - j) ((kindsS ns n).drop (i+j))) (fun j=>n.kids.length - (i+j)) 0 trivial ⟨upLe1 rfl (ABlk.le_refl _),trivial⟩ ⟨Nat.zero_le _,.inl rfl,by simp⟩ ?_
    rintro Y hle j ⟨hj,hij,he⟩ ih
    have hw:IntKind.i64.wrap (((i+j:Nat):Int) - (i:Int))=j:=by rw [w64 ⟨by omega,by omega⟩];omega
    have hw1:i+j<n.kids.length→IntKind.i64.wrap (((i+j:Nat):Int)+1)=((i+(j+1):Nat):Int):=fun h=>by rw [w64 ⟨by omega,by omega⟩];omega
    have hg:i+j<n.kids.length→0≤n.kids.getD ((i+j:Nat):Int).toNat 0∧n.kids.getD ((i+j:Nat):Int).toNat 0<ns.length:=fun h=>hq _ (by rw [Int.toNat_natCast,List.getD_eq_getElem?_getD,List.getElem?_eq_getElem h];exact List.getElem_mem h)
    have hkd:i+j<n.kids.length→(kindsS ns n).drop (i+j)=(ns.getD (n.kids.getD ((i+j:Nat):Int).toNat 0).toNat default).k::(kindsS ns n).drop (i+(j+1)):=fun h=>by
      have h2:i+j<(kindsS ns n).length:=by simpa [kindsS] using h
      have e:(kindsS ns n)[i+j]=(ns.getD (n.kids.getD (i+j) 0).toNat default).k:=by simp [kindsS,h]
      rw [List.drop_eq_getElem_cons h2,e,Int.toNat_natCast,Nat.add_assoc]
    have hend:n.kids.length≤i+j→(kindsS ns n).drop (i+j)=[]:=fun h=>List.drop_of_length_le (by simpa [kindsS] using h)
    conv=>whnf
    repeat' (first|((first|refine two_eq ?_ ?_|refine two_ne ?_ ?_|refine two_not ?_ ?_|refine two_dec ?_ ?_|refine two_intro ?_ ?_)<;>intro h<;>conv=>whnf)|((first|refine Chk.mk ?_ ?_|refine And.intro ?_ ?_);(focus (((repeat' (refine And.intro ?_ ?_))<;>(first|omega|rfl|(simp only [List.length_append,List.length_cons,List.length_nil];omega)|fail));done));conv=>whnf)|(refine Exists.intro _ (And.intro rfl ?_))|(refine Exists.intro _ (Exists.intro _ (And.intro rfl ?_)))|(refine Exists.intro _ (Exists.intro _ (Exists.intro _ (And.intro rfl ?_))))|fail)
    all_goals first
    | (have h0:cntS exB (m - j) ((kindsS ns n).drop (i+j))=0:=by
        first
        | (rw [hend (by omega)];cases (m - j)<;>rfl)
        | (rw [show m - j=0 by omega];rfl)
        | (rw [hkd (by omega),show m - j=(m - j - 1)+1 by omega,cnt_f];(simp only [stB,exB,Bool.and_eq_true,Bool.and_eq_false_iff,decide_eq_true_eq,decide_eq_false_iff_not,beq_iff_eq,beq_eq_false_iff_ne];omega))
        | fail
       have he:cntS exB m ((kindsS ns n).drop i)=j:=by rw [he,h0];rfl
       rw [he] at hk
       exact hr _ _ (intV (j:Int)) (kidsK ns root n ((i+j:Nat):Int)++[ibox a]) rfl rfl (by repeat' (first|exact trivial|exact rfl|(refine And.intro ?_ ?_)|fail)) (AV.le_of_eq (congrArg intV hw)) (lesK.refl _) (by rw [List.append_nil];exact hk))
    | (have hw1:=hw1 (by omega)
       refine hle _ _ (Le.env ?_ ?_) (ih (j+1) (by omega) ⟨by omega,by omega,?_⟩)
       · skip
         repeat' (first|exact trivial|((conv=>whnf);first|exact trivial|refine⟨AV.le_refl _,?_⟩|refine⟨ABlk.le_refl _,?_⟩|fail)|fail)
       · skip
         repeat' (first|exact trivial|((conv=>whnf);first|exact trivial|refine⟨AV.le_refl _,?_⟩|refine⟨ABlk.le_refl _,?_⟩|(refine⟨AV.le_of_eq ?_,?_⟩;focus ((first|exact congrArg (fun x=>ABlk.box 3 [.p (.int .i64 x)]) hw1|fail);done))|(refine⟨ABlk.le_of_eq ?_,?_⟩;focus ((first|exact congrArg (fun x=>ABlk.box 3 [.p (.int .i64 x)]) hw1|fail);done))|fail)|fail)
       · rw [he,hkd (by omega),show m - j=(m - (j+1))+1 by omega,cnt_t (by (simp only [stB,exB,Bool.and_eq_true,Bool.and_eq_false_iff,decide_eq_true_eq,decide_eq_false_iff_not,beq_iff_eq,beq_eq_false_iff_ne];omega))];omega)
    | fail
  · skip
    refine frameG (K0:=kidsK ns root n i++[ibox c]) (X:=[]) gN_ok 19 rfl (by repeat' (first|exact trivial|exact rfl|(refine And.intro ?_ ?_)|fail)) fun Q hr=>?_
    conv=>whnf
    refine loop_up (ι:=Nat) [0,1,2,3,4,8] (fun _=>[]) (fun j=>[(2,.box 3 [.p (.int .i64 ((i+j:Nat):Int))])])
      (fun j=>j≤m∧(j=0∨i+j≤n.kids.length)∧cntS (fun k=>k==c) m ((kindsS ns n).drop i)=j+cntS (fun k=>k==c) (m - j) ((kindsS ns n).drop (i+j))) (fun j=>n.kids.length - (i+j)) 0 trivial ⟨upLe1 rfl (ABlk.le_refl _),trivial⟩ ⟨Nat.zero_le _,.inl rfl,by simp⟩ ?_
    rintro Y hle j ⟨hj,hij,he⟩ ih
    have hw:IntKind.i64.wrap (((i+j:Nat):Int) - (i:Int))=j:=by rw [w64 ⟨by omega,by omega⟩];omega
    have hw1:i+j<n.kids.length→IntKind.i64.wrap (((i+j:Nat):Int)+1)=((i+(j+1):Nat):Int):=fun h=>by rw [w64 ⟨by omega,by omega⟩];omega
    have hg:i+j<n.kids.length→0≤n.kids.getD ((i+j:Nat):Int).toNat 0∧n.kids.getD ((i+j:Nat):Int).toNat 0<ns.length:=fun h=>hq _ (by rw [Int.toNat_natCast,List.getD_eq_getElem?_getD,List.getElem?_eq_getElem h];exact List.getElem_mem h)
    have hkd:i+j<n.kids.length→(kindsS ns n).drop (i+j)=(ns.getD (n.kids.getD ((i+j:Nat):Int).toNat 0).toNat default).k::(kindsS ns n).drop (i+(j+1)):=fun h=>by
      have h2:i+j<(kindsS ns n).length:=by simpa [kindsS] using h
      have e:(kindsS ns n)[i+j]=(ns.getD (n.kids.getD (i+j) 0).toNat default).k:=by simp [kindsS,h]
      rw [List.drop_eq_getElem_cons h2,e,Int.toNat_natCast,Nat.add_assoc]
    have hend:n.kids.length≤i+j→(kindsS ns n).drop (i+j)=[]:=fun h=>List.drop_of_length_le (by simpa [kindsS] using h)
    conv=>whnf
    repeat' (first|((first|refine two_eq ?_ ?_|refine two_ne ?_ ?_|refine two_not ?_ ?_|refine two_dec ?_ ?_|refine two_intro ?_ ?_)<;>intro h<;>conv=>whnf)|((first|refine Chk.mk ?_ ?_|refine And.intro ?_ ?_);(focus (((repeat' (refine And.intro ?_ ?_))<;>(first|omega|rfl|(simp only [List.length_append,List.length_cons,List.length_nil];omega)|fail));done));conv=>whnf)|(refine Exists.intro _ (And.intro rfl ?_))|(refine Exists.intro _ (Exists.intro _ (And.intro rfl ?_)))|(refine Exists.intro _ (Exists.intro _ (Exists.intro _ (And.intro rfl ?_))))|fail)
    all_goals first
    | (have h0:cntS (fun k=>k==c) (m - j) ((kindsS ns n).drop (i+j))=0:=by
        first
        | (rw [hend (by omega)];cases (m - j)<;>rfl)
        | (rw [show m - j=0 by omega];rfl)
        | (rw [hkd (by omega),show m - j=(m - j - 1)+1 by omega,cnt_f];(simp only [stB,exB,Bool.and_eq_true,Bool.and_eq_false_iff,decide_eq_true_eq,decide_eq_false_iff_not,beq_iff_eq,beq_eq_false_iff_ne];omega))
        | fail
       have he:cntS (fun k=>k==c) m ((kindsS ns n).drop i)=j:=by rw [he,h0];rfl
       rw [he] at hk
       exact hr _ _ (intV (j:Int)) (kidsK ns root n ((i+j:Nat):Int)++[ibox c]) rfl rfl (by repeat' (first|exact trivial|exact rfl|(refine And.intro ?_ ?_)|fail)) (AV.le_of_eq (congrArg intV hw)) (lesK.refl _) (by rw [List.append_nil];exact hk))
    | (have hw1:=hw1 (by omega)
       refine hle _ _ (Le.env ?_ ?_) (ih (j+1) (by omega) ⟨by omega,by omega,?_⟩)
       · skip
         repeat' (first|exact trivial|((conv=>whnf);first|exact trivial|refine⟨AV.le_refl _,?_⟩|refine⟨ABlk.le_refl _,?_⟩|fail)|fail)
       · skip
         repeat' (first|exact trivial|((conv=>whnf);first|exact trivial|refine⟨AV.le_refl _,?_⟩|refine⟨ABlk.le_refl _,?_⟩|(refine⟨AV.le_of_eq ?_,?_⟩;focus ((first|exact congrArg (fun x=>ABlk.box 3 [.p (.int .i64 x)]) hw1|fail);done))|(refine⟨ABlk.le_of_eq ?_,?_⟩;focus ((first|exact congrArg (fun x=>ABlk.box 3 [.p (.int .i64 x)]) hw1|fail);done))|fail)|fail)
       · rw [he,hkd (by omega),show m - j=(m - (j+1))+1 by omega,cnt_t (by (simp only [stB,exB,Bool.and_eq_true,Bool.and_eq_false_iff,decide_eq_true_eq,decide_eq_false_iff_not,beq_iff_eq,beq_eq_false_iff_ne];omega))];omega)
    | fail
  · skip
    refine frameG (K0:=kidsK ns root n i++[ibox a,ibox c]) (X:=[]) gN_ok 19 rfl (by repeat' (first|exact trivial|exact rfl|(refine And.intro ?_ ?_)|fail)) fun Q hr=>?_
    conv=>whnf
    refine loop_up (ι:=Nat) [0,1,2,3,4,8] (fun _=>[]) (fun j=>[(2,.box 3 [.p (.int .i64 ((i+j:Nat):Int))])])
      (fun j=>j≤m∧(j=0∨i+j≤n.kids.length)∧cntS (fun k=>k==c) m ((kindsS ns n).drop i)=j+cntS (fun k=>k==c) (m - j) ((kindsS ns n).drop (i+j))) (fun j=>n.kids.length - (i+j)) 0 trivial ⟨upLe1 rfl (ABlk.le_refl _),trivial⟩ ⟨Nat.zero_le _,.inl rfl,by simp⟩ ?_
    rintro Y hle j ⟨hj,hij,he⟩ ih
    have hw:IntKind.i64.wrap (((i+j:Nat):Int) - (i:Int))=j:=by rw [w64 ⟨by omega,by omega⟩];omega
    have hw1:i+j<n.kids.length→IntKind.i64.wrap (((i+j:Nat):Int)+1)=((i+(j+1):Nat):Int):=fun h=>by rw [w64 ⟨by omega,by omega⟩];omega
    have hg:i+j<n.kids.length→0≤n.kids.getD ((i+j:Nat):Int).toNat 0∧n.kids.getD ((i+j:Nat):Int).toNat 0<ns.length:=fun h=>hq _ (by rw [Int.toNat_natCast,List.getD_eq_getElem?_getD,List.getElem?_eq_getElem h];exact List.getElem_mem h)
    have hkd:i+j<n.kids.length→(kindsS ns n).drop (i+j)=(ns.getD (n.kids.getD ((i+j:Nat):Int).toNat 0).toNat default).k::(kindsS ns n).drop (i+(j+1)):=fun h=>by
      have h2:i+j<(kindsS ns n).length:=by simpa [kindsS] using h
      have e:(kindsS ns n)[i+j]=(ns.getD (n.kids.getD (i+j) 0).toNat default).k:=by simp [kindsS,h]
      rw [List.drop_eq_getElem_cons h2,e,Int.toNat_natCast,Nat.add_assoc]
    have hend:n.kids.length≤i+j→(kindsS ns n).drop (i+j)=[]:=fun h=>List.drop_of_length_le (by simpa [kindsS] using h)
    conv=>whnf
    repeat' (first|((first|refine two_eq ?_ ?_|refine two_ne ?_ ?_|refine two_not ?_ ?_|refine two_dec ?_ ?_|refine two_intro ?_ ?_)<;>intro h<;>conv=>whnf)|((first|refine Chk.mk ?_ ?_|refine And.intro ?_ ?_);(focus (((repeat' (refine And.intro ?_ ?_))<;>(first|omega|rfl|(simp only [List.length_append,List.length_cons,List.length_nil];omega)|fail));done));conv=>whnf)|(refine Exists.intro _ (And.intro rfl ?_))|(refine Exists.intro _ (Exists.intro _ (And.intro rfl ?_)))|(refine Exists.intro _ (Exists.intro _ (Exists.intro _ (And.intro rfl ?_))))|fail)
    all_goals first
    | (have h0:cntS (fun k=>k==c) (m - j) ((kindsS ns n).drop (i+j))=0:=by
        first
        | (rw [hend (by omega)];cases (m - j)<;>rfl)
        | (rw [show m - j=0 by omega];rfl)
        | (rw [hkd (by omega),show m - j=(m - j - 1)+1 by omega,cnt_f];(simp only [stB,exB,Bool.and_eq_true,Bool.and_eq_false_iff,decide_eq_true_eq,decide_eq_false_iff_not,beq_iff_eq,beq_eq_false_iff_ne];omega))
        | fail
       have he:cntS (fun k=>k==c) m ((kindsS ns n).drop i)=j:=by rw [he,h0];rfl
       rw [he] at hk
       exact hr _ _ (intV (j:Int)) (kidsK ns root n ((i+j:Nat):Int)++[ibox a,ibox c]) rfl rfl (by repeat' (first|exact trivial|exact rfl|(refine And.intro ?_ ?_)|fail)) (AV.le_of_eq (congrArg intV hw)) (lesK.refl _) (by rw [List.append_nil];exact hk))
    | (have hw1:=hw1 (by omega)
       refine hle _ _ (Le.env ?_ ?_) (ih (j+1) (by omega) ⟨by omega,by omega,?_⟩)
       · skip
         repeat' (first|exact trivial|((conv=>whnf);first|exact trivial|refine⟨AV.le_refl _,?_⟩|refine⟨ABlk.le_refl _,?_⟩|fail)|fail)
       · skip
         repeat' (first|exact trivial|((conv=>whnf);first|exact trivial|refine⟨AV.le_refl _,?_⟩|refine⟨ABlk.le_refl _,?_⟩|(refine⟨AV.le_of_eq ?_,?_⟩;focus ((first|exact congrArg (fun x=>ABlk.box 3 [.p (.int .i64 x)]) hw1|fail);done))|(refine⟨ABlk.le_of_eq ?_,?_⟩;focus ((first|exact congrArg (fun x=>ABlk.box 3 [.p (.int .i64 x)]) hw1|fail);done))|fail)|fail)
       · rw [he,hkd (by omega),show m - j=(m - (j+1))+1 by omega,cnt_t (by (simp only [stB,exB,Bool.and_eq_true,Bool.and_eq_false_iff,decide_eq_true_eq,decide_eq_false_iff_not,beq_iff_eq,beq_eq_false_iff_ne];omega))];omega)
    | fail
  · skip
    refine frameG (K0:=kidsK ns root n i++[ibox a,ibox b,ibox c]) (X:=[]) gN_ok 19 rfl (by repeat' (first|exact trivial|exact rfl|(refine And.intro ?_ ?_)|fail)) fun Q hr=>?_
    conv=>whnf
    refine loop_up (ι:=Nat) [0,1,2,3,4,8] (fun _=>[]) (fun j=>[(2,.box 3 [.p (.int .i64 ((i+j:Nat):Int))])])
      (fun j=>j≤m∧(j=0∨i+j≤n.kids.length)∧cntS (fun k=>k==c) m ((kindsS ns n).drop i)=j+cntS (fun k=>k==c) (m - j) ((kindsS ns n).drop (i+j))) (fun j=>n.kids.length - (i+j)) 0 trivial ⟨upLe1 rfl (ABlk.le_refl _),trivial⟩ ⟨Nat.zero_le _,.inl rfl,by simp⟩ ?_
    rintro Y hle j ⟨hj,hij,he⟩ ih
    have hw:IntKind.i64.wrap (((i+j:Nat):Int) - (i:Int))=j:=by rw [w64 ⟨by omega,by omega⟩];omega
    have hw1:i+j<n.kids.length→IntKind.i64.wrap (((i+j:Nat):Int)+1)=((i+(j+1):Nat):Int):=fun h=>by rw [w64 ⟨by omega,by omega⟩];omega
    have hg:i+j<n.kids.length→0≤n.kids.getD ((i+j:Nat):Int).toNat 0∧n.kids.getD ((i+j:Nat):Int).toNat 0<ns.length:=fun h=>hq _ (by rw [Int.toNat_natCast,List.getD_eq_getElem?_getD,List.getElem?_eq_getElem h];exact List.getElem_mem h)
    have hkd:i+j<n.kids.length→(kindsS ns n).drop (i+j)=(ns.getD (n.kids.getD ((i+j:Nat):Int).toNat 0).toNat default).k::(kindsS ns n).drop (i+(j+1)):=fun h=>by
      have h2:i+j<(kindsS ns n).length:=by simpa [kindsS] using h
      have e:(kindsS ns n)[i+j]=(ns.getD (n.kids.getD (i+j) 0).toNat default).k:=by simp [kindsS,h]
      rw [List.drop_eq_getElem_cons h2,e,Int.toNat_natCast,Nat.add_assoc]
    have hend:n.kids.length≤i+j→(kindsS ns n).drop (i+j)=[]:=fun h=>List.drop_of_length_le (by simpa [kindsS] using h)
    conv=>whnf
    repeat' (first|((first|refine two_eq ?_ ?_|refine two_ne ?_ ?_|refine two_not ?_ ?_|refine two_dec ?_ ?_|refine two_intro ?_ ?_)<;>intro h<;>conv=>whnf)|((first|refine Chk.mk ?_ ?_|refine And.intro ?_ ?_);(focus (((repeat' (refine And.intro ?_ ?_))<;>(first|omega|rfl|(simp only [List.length_append,List.length_cons,List.length_nil];omega)|fail));done));conv=>whnf)|(refine Exists.intro _ (And.intro rfl ?_))|(refine Exists.intro _ (Exists.intro _ (And.intro rfl ?_)))|(refine Exists.intro _ (Exists.intro _ (Exists.intro _ (And.intro rfl ?_))))|fail)
    all_goals first
    | (have h0:cntS (fun k=>k==c) (m - j) ((kindsS ns n).drop (i+j))=0:=by
        first
        | (rw [hend (by omega)];cases (m - j)<;>rfl)
        | (rw [show m - j=0 by omega];rfl)
        | (rw [hkd (by omega),show m - j=(m - j - 1)+1 by omega,cnt_f];(simp only [stB,exB,Bool.and_eq_true,Bool.and_eq_false_iff,decide_eq_true_eq,decide_eq_false_iff_not,beq_iff_eq,beq_eq_false_iff_ne];omega))
        | fail
       have he:cntS (fun k=>k==c) m ((kindsS ns n).drop i)=j:=by rw [he,h0];rfl
       rw [he] at hk
       exact hr _ _ (intV (j:Int)) (kidsK ns root n ((i+j:Nat):Int)++[ibox a,ibox b,ibox c]) rfl rfl (by repeat' (first|exact trivial|exact rfl|(refine And.intro ?_ ?_)|fail)) (AV.le_of_eq (congrArg intV hw)) (lesK.refl _) (by rw [List.append_nil];exact hk))
    | (have hw1:=hw1 (by omega)
       refine hle _ _ (Le.env ?_ ?_) (ih (j+1) (by omega) ⟨by omega,by omega,?_⟩)
       · skip
         repeat' (first|exact trivial|((conv=>whnf);first|exact trivial|refine⟨AV.le_refl _,?_⟩|refine⟨ABlk.le_refl _,?_⟩|fail)|fail)
       · skip
         repeat' (first|exact trivial|((conv=>whnf);first|exact trivial|refine⟨AV.le_refl _,?_⟩|refine⟨ABlk.le_refl _,?_⟩|(refine⟨AV.le_of_eq ?_,?_⟩;focus ((first|exact congrArg (fun x=>ABlk.box 3 [.p (.int .i64 x)]) hw1|fail);done))|(refine⟨ABlk.le_of_eq ?_,?_⟩;focus ((first|exact congrArg (fun x=>ABlk.box 3 [.p (.int .i64 x)]) hw1|fail);done))|fail)|fail)
       · rw [he,hkd (by omega),show m - j=(m - (j+1))+1 by omega,cnt_t (by (simp only [stB,exB,Bool.and_eq_true,Bool.and_eq_false_iff,decide_eq_true_eq,decide_eq_false_iff_not,beq_iff_eq,beq_eq_false_iff_ne];omega))];omega)
    | fail
def gKi:AG:=gput 174 cTakeK gN
theorem gKi_ok:GOk Tryz.prog gKi:=gput_ok take_ok' gN_ok
def cKids:AC:=fun args K k=>∃ ns root n,args=[treeV ns root,nodeV n]∧n.kids.length≤4000∧(∀ q∈n.kids,0≤q∧q<(List.length ns:Int))∧k (.ret (.p (.bool (kidsOkS n.k (kindsS ns n))))) K
theorem kids_ok:COk 117 cKids:=by
  rintro args K k ⟨ns,root,n,rfl,hn,hq,hk⟩
  refine frame0P gKi_ok 19 rfl fun Q hr=>?_
  have hkl:(kindsS ns n).length=n.kids.length:=by simp [kindsS]
  conv=>whnf
  repeat' (first|((first|refine two_eq ?_ ?_|refine two_ne ?_ ?_|refine two_not ?_ ?_|refine two_dec ?_ ?_|refine two_intro ?_ ?_)<;>intro h<;>conv=>whnf)|((first|refine Chk.mk ?_ ?_|refine And.intro ?_ ?_);(focus (((repeat' (refine And.intro ?_ ?_))<;>(first|omega|rfl|(simp only [List.length_append,List.length_cons,List.length_nil];omega)|fail));done));conv=>whnf)|(refine⟨ns,root,n,_,_,_,_,_,_,_,rfl,rfl,(Int.toNat_of_nonneg ?_).symm,(Int.toNat_of_nonneg ?_).symm,?_,hn,hq,.inl ⟨rfl,rfl,.inl rfl⟩,?_⟩;(focus omega);(focus omega);(focus omega);conv=>whnf)|(refine⟨ns,root,n,_,_,_,_,_,_,_,rfl,rfl,(Int.toNat_of_nonneg ?_).symm,(Int.toNat_of_nonneg ?_).symm,?_,hn,hq,.inl ⟨rfl,rfl,.inr ⟨_,rfl⟩⟩,?_⟩;(focus omega);(focus omega);(focus omega);conv=>whnf)|(refine⟨ns,root,n,_,_,_,_,_,_,_,rfl,rfl,(Int.toNat_of_nonneg ?_).symm,(Int.toNat_of_nonneg ?_).symm,?_,hn,hq,.inr (.inl ⟨rfl,rfl,.inl rfl⟩),?_⟩;(focus omega);(focus omega);(focus omega);conv=>whnf)|(refine⟨ns,root,n,_,_,_,_,_,_,_,rfl,rfl,(Int.toNat_of_nonneg ?_).symm,(Int.toNat_of_nonneg ?_).symm,?_,hn,hq,.inr (.inl ⟨rfl,rfl,.inr ⟨_,rfl⟩⟩),?_⟩;(focus omega);(focus omega);(focus omega);conv=>whnf)|(refine⟨ns,root,n,_,_,_,_,_,_,_,rfl,rfl,(Int.toNat_of_nonneg ?_).symm,(Int.toNat_of_nonneg ?_).symm,?_,hn,hq,.inr (.inr ⟨_,rfl,.inl ⟨rfl,rfl⟩⟩),?_⟩;(focus omega);(focus omega);(focus omega);conv=>whnf)|(refine⟨ns,root,n,_,_,_,_,_,_,_,rfl,rfl,(Int.toNat_of_nonneg ?_).symm,(Int.toNat_of_nonneg ?_).symm,?_,hn,hq,.inr (.inr ⟨_,rfl,.inr (.inl ⟨_,rfl,rfl⟩)⟩),?_⟩;(focus omega);(focus omega);(focus omega);conv=>whnf)|(refine⟨ns,root,n,_,_,_,_,_,_,_,rfl,rfl,(Int.toNat_of_nonneg ?_).symm,(Int.toNat_of_nonneg ?_).symm,?_,hn,hq,.inr (.inr ⟨_,rfl,.inr (.inr ⟨_,_,rfl,rfl⟩)⟩),?_⟩;(focus omega);(focus omega);(focus omega);conv=>whnf)|fail)
  all_goals refine hr _ _ rfl (ret_eq hk ?_)
  all_goals clear hr hk hq
  all_goals try simp only [Int.toNat_natCast,show Int.toNat 0=0 from rfl,show Int.toNat 4000=4000 from rfl,show Int.toNat 1=1 from rfl,show Int.toNat 2=2 from rfl,Nat.zero_add,List.drop_zero] at *
  all_goals refine congrArg (fun b=>AV.p (.bool b)) (Bool.eq_iff_iff.2 ?_)
  all_goals simp (disch:=omega) only [kidsOkS,if_pos,if_neg,List.drop_zero,Nat.zero_add,hkl]
  all_goals simp only [Bool.and_eq_true,beq_iff_eq,reduceCtorEq]
  all_goals first|omega|(simp only [iff_false,not_and];intros;omega)|fail
def gR3:AG:=gput 115 cText (gput 116 cNumber (gput 117 cKids g0))
theorem gR3_ok:GOk Tryz.prog gR3:=gput_ok text_ok (gput_ok number_ok (gput_ok kids_ok g0_ok))
def treeK (ns:List Nd) (root:Int):List ABlk:=[.box 40 [.p (.sl 5 ns.length (nodeF ns)),.p (.int .i64 root)]]
def cBad:AC:=fun args K k=>∃ ns root n X,args=[nodeV n,.ptr 0 0 1 0 0]∧K=treeK ns root++X∧n.tx.length<1000000∧n.kids.length≤4000∧(∀ q∈n.kids,0≤q∧q<(List.length ns:Int))∧k (.ret (.p (.bool (!nodeOkS ns n)))) (treeK ns root++X)
theorem bad_ok:COk 114 cBad:=by
 rintro args K k ⟨ns,root,n,X,rfl,rfl,ht,hn,hq,hk⟩
 refine frameG (K0:=treeK ns root) gR3_ok 19 rfl ⟨rfl,trivial⟩ fun Q hr=>?_
 conv=>whnf
 repeat' (first|((first|refine two_eq ?_ ?_|refine two_ne ?_ ?_|refine two_not ?_ ?_|refine two_dec ?_ ?_|refine two_intro ?_ ?_)<;>intro h<;>conv=>whnf)|(refine⟨n,rfl,ht,?_⟩;conv=>whnf)|(refine⟨n,rfl,?_⟩;conv=>whnf)|(refine⟨ns,root,n,rfl,hn,hq,?_⟩;conv=>whnf)|fail)
 all_goals refine hr _ _ _ _ rfl rfl ⟨rfl,trivial⟩ (AV.le_of_eq ?_) (lesK.refl _) hk
 all_goals refine congrArg (fun b=>AV.p (.bool b)) (Bool.eq_iff_iff.2 ?_)
 all_goals clear hr hk hq
 all_goals (simp_all [nodeOkS]<;>(try intros)<;>omega)
def gR4:AG:=gput 114 cBad g0
theorem gR4_ok:GOk Tryz.prog gR4:=gput_ok bad_ok g0_ok
def badAt (ns:List Nd) (i:Nat):List Nd→Int
 | []=>-1
 | n::r=>match nodeOkS ns n with
  | false=>(i:Int)
  | true=>badAt ns (i+1) r
structure Sized (ns:List Nd):Prop where
 len:ns.length≤4000
 txt:∀ i,(ns.getD i default).tx.length<1000000
 many:∀ i,(ns.getD i default).kids.length≤4000
 kid:∀ i,∀ q∈(ns.getD i default).kids,0≤q∧q<(ns.length:Int)
def cIdxR:AC:=fun args K k=>∃ ns root X,args=[.p (.sl 5 (List.length ns) (nodeF ns)),.fn 114 [] [.ptr 0 0 1 0 0]]∧K=treeK ns root++X∧Sized ns∧k (.ret (intV (badAt ns 0 ns))) (treeK ns root++X)
theorem idxR_ok:COk 171 cIdxR:=by
 rintro args K k ⟨ns,root,X,rfl,rfl,hz,hk⟩
 have hl:=hz.len
 refine frameG (K0:=treeK ns root) gR4_ok 19 rfl ⟨rfl,trivial⟩ fun Q hr=>?_
 conv=>whnf
 refine loop_up (ι:=Nat) [0,1,7] (fun i=>[(8,intV i)]) (fun _=>[]) (fun i=>i≤ns.length∧badAt ns i (ns.drop i)=badAt ns 0 ns) (fun i=>ns.length - i) 0 ⟨AV.le_refl _,trivial⟩ trivial ⟨Nat.zero_le _,rfl⟩ ?_
 rintro Y hle i ⟨hi,he⟩ ih
 have hw1:IntKind.i64.wrap ((i:Int)+1)=((i+1:Nat):Int):=by rw [w64 ⟨by omega,by omega⟩];omega
 conv=>whnf
 refine two_dec (fun h=>?_) (fun h=>?_)
 ·have h:i<ns.length:=by omega
  rw [List.drop_eq_getElem_cons h] at he
  have e1:ns.getD i default=ns[i]:=by simp [h]
  conv=>whnf
  repeat' (first|((first|refine two_eq ?_ ?_|refine two_ne ?_ ?_|refine two_not ?_ ?_|refine two_dec ?_ ?_|refine two_intro ?_ ?_)<;>intro h<;>conv=>whnf)|((first|refine Chk.mk ?_ ?_|refine And.intro ?_ ?_);(focus (((repeat' (refine And.intro ?_ ?_))<;>(first|omega|rfl|(simp only [List.length_append,List.length_cons,List.length_nil];omega)|fail));done));conv=>whnf)|(refine Exists.intro _ (And.intro rfl ?_))|(refine Exists.intro _ (Exists.intro _ (And.intro rfl ?_)))|(refine Exists.intro _ (Exists.intro _ (Exists.intro _ (And.intro rfl ?_))))|fail)
  refine⟨ns,root,ns.getD i default,[],rfl,rfl,hz.txt _,hz.many _,hz.kid _,?_⟩
  conv=>whnf
  refine two_not (fun h2=>?_) (fun h2=>?_)
  ·rw [e1] at h2
   simp only [badAt,h2] at he
   conv=>whnf
   exact hr _ _ _ _ rfl rfl ⟨rfl,trivial⟩ (AV.le_refl _) (lesK.refl _) (he▸hk)
  ·rw [e1] at h2
   simp only [badAt,h2] at he
   conv=>whnf
   refine hle _ _ (Le.env ?_ ?_) (ih (i+1) (by omega) ⟨by omega,he⟩)
   ·skip
    repeat' (first|exact trivial|((conv=>whnf);first|exact trivial|refine⟨AV.le_refl _,?_⟩|refine⟨ABlk.le_refl _,?_⟩|(refine⟨AV.le_of_eq ?_,?_⟩;focus ((first|exact congrArg intV hw1|fail);done))|(refine⟨ABlk.le_of_eq ?_,?_⟩;focus ((first|exact congrArg intV hw1|fail);done))|fail)|fail)
   ·skip
    repeat' (first|exact trivial|((conv=>whnf);first|exact trivial|refine⟨AV.le_refl _,?_⟩|refine⟨ABlk.le_refl _,?_⟩|fail)|fail)
 ·obtain rfl:i=ns.length:=by omega
  rw [List.drop_length] at he
  rw [← he] at hk
  conv=>whnf
  exact hr _ _ _ _ rfl rfl ⟨rfl,trivial⟩ (AV.le_refl _) (lesK.refl _) hk
theorem badAt_all (ns:List Nd) (i:Nat) (l:List Nd):decide (badAt ns i l≥0)=!l.all (nodeOkS ns):=by
 induction l generalizing i with
 | nil=>rfl
 | cons n r ih =>
  unfold badAt
  rw [List.all_cons]
  by_cases h:nodeOkS ns n=true
  ·rw [h];simp only [ih,Bool.true_and]
  ·rw [Bool.eq_false_iff.2 h];simp
def gR5:AG:=gput 171 cIdxR (gput 112 cSound (gput 105 cDepth g0))
theorem gR5_ok:GOk Tryz.prog gR5:=gput_ok idxR_ok (gput_ok sound_ok (gput_ok depth_ok g0_ok))
theorem getD_lt {ns:List Nd} {i:Nat} (h:¬ i<ns.length):ns.getD i default=default:=by
 rw [List.getD_eq_getElem?_getD,List.getElem?_eq_none (by omega)];rfl
theorem sized_of {ns:List Nd} {root:Int} (h:soundS ns root=true) (ht:∀ i,(ns.getD i default).tx.length<1000000):Sized ns:=by
 obtain⟨h1,h2,h3,h4⟩:=soundS_ok h
 refine⟨h2,ht,fun i=>?_,fun i q hq=>?_⟩
 ·by_cases hi:i<ns.length
  ·have:=soundS_many h i hi;omega
  ·rw [getD_lt hi];exact Nat.zero_le _
 ·by_cases hi:i<ns.length
  ·have:=h4 i hi q hq;omega
  ·rw [getD_lt hi] at hq;cases hq
def cRight:AC:=fun args K k=>∃ ns root,args=[treeV ns root]∧(List.length ns:Nat)<1000000∧(∀ i,(ns.getD i default).tx.length<1000000)∧k (.ret (.p (.bool (rightS ns root)))) K
theorem right_ok:COk 77 cRight:=by
 rintro args K k ⟨ns,root,rfl,hn,ht,hk⟩
 refine frame0P gR5_ok 19 rfl fun Q hr=>?_
 conv=>whnf
 refine⟨ns,root,rfl,hn,?_⟩
 cases hs:soundS ns root with
 | false =>
  conv=>whnf
  exact hr _ _ rfl (by simpa [rightS,hs] using hk)
 | true =>
  have hz:=sized_of hs ht
  obtain⟨h1,h2,h3,h4⟩:=soundS_ok hs
  conv=>whnf
  refine⟨ns,root,rfl,hn,?_⟩
  conv=>whnf
  refine two_dec (fun h=>?_) (fun h=>?_)
  ·conv=>whnf
   exact hr _ _ rfl (by simpa [rightS,hs,show ¬ depthS ns root≤40 by omega] using hk)
  conv=>whnf
  refine⟨⟨by omega,by omega,rfl⟩,?_⟩
  conv=>whnf
  refine two_ne (fun h'=>?_) (fun h'=>?_)
  ·conv=>whnf
   exact hr _ _ rfl (ret_eq hk (congrArg (fun b=>AV.p (.bool b)) (by simp only [rightS,beq_eq_false_iff_ne.2 h',Bool.and_false,Bool.false_and])))
  conv=>whnf
  refine⟨ns,root,[],rfl,rfl,hz,?_⟩
  conv=>whnf
  exact hr _ _ rfl (ret_eq hk (congrArg (fun b=>AV.p (.bool b)) (by
   show _=!decide (badAt ns 0 ns≥0)
   rw [badAt_all,Bool.not_not]
   simp only [rightS,hs,h',show depthS ns root≤40 by omega,decide_true,beq_self_eq_true,Bool.true_and])))
end Go.Proofs.YtcmepkfefoidcaaGreatDoor
namespace Go.AE
def fsxB (r sz n:Nat) (g:Nat→List PV) (b b':ABlk):Prop:=fswB r sz n g b b'∨∃ ty s ver k f f',b=.arr ty s ver k f∧b'=.arr ty s ver k f'∧∀ i,i<k→fswL r sz n g (f i) (f' i)
def fsxK (r sz n:Nat) (g:Nat→List PV):List ABlk→List ABlk→Prop
 | [],[]=>True
 | a::l,b::l'=>fsxB r sz n g a b∧fsxK r sz n g l l'
 | _,_=>False
theorem fsxK.hp {r sz n:Nat} {g:Nat→List PV} {K K':List ABlk} (h:fsxK r sz n g K K') (j:Nat):fsxB r sz n g (hp K j) (hp K' j):=by
 induction K generalizing K' j with
 | nil=>cases K' with
  | nil=>exact .inl (.inl (ABlk.le_refl _))
  | cons b l'=>exact h.elim
 | cons a l ih=>cases K' with
  | nil=>exact h.elim
  | cons b l' =>
   cases j with
   | zero=>exact h.1
   | succ j=>exact ih h.2 j
theorem fzx_core {w:World} {m:Mp} {K K':List ABlk} {r ty sz n:Nat} {f:Nat→List AV} {g:Nat→List PV} (hS:St w m (hp K)) (hr:nth K r=some (.arr ty sz 0 n f)) (hg:∀ i,i<n→f i=pvs (g i))
  (hK:fsxK r sz n g (setN K r .dead) K'):∃ m',Tr w m w m'∧St w m' (hp K')∧∀ a a' u,fsw r sz n g a a'→V w m a u→V w m' a' u:=by
 obtain⟨m',hT,hS',hV⟩:=freeze_sl hS hr g hg
 have hv:∀ a a' u,fsw r sz n g a a'→V w m a u→V w m' a' u:=fun a a' u h hu=>by
  rcases h with h|⟨rfl,rfl⟩
  ·exact h _ _ _ (hu.mono hT)
  ·exact hV u hu
 refine⟨m',hT,⟨hS'.inj,hS'.notI,hS'.lt,hS'.Ilt,hS'.gl,fun j=>?_⟩,hv⟩
 have hb:=hS'.blk j
 have hup:hp (setN K r .dead) j=upd (hp K) r .dead j:=by rw [upd_setN _ (nth_lt hr)]
 rcases hK.hp j with (h|⟨ty,cs,cs',h1,h2,h3⟩)|⟨ty,s,ver,k,f1,f1',h1,h2,h3⟩
 ·exact h _ _ _ _ hb
 ·rw [h1] at hb
  rw [h2]
  have hj:hp K j=.box ty cs:=by
   rw [h1] at hup
   simp only [upd] at hup
   split at hup
   ·cases hup
   ·exact hup.symm
  have hb0:=hS.blk j
  rw [hj] at hb0
  obtain⟨hl0,c0,e1,e2,e3⟩:=hb0
  obtain⟨hl,c,d1,d2,d3⟩:=hb
  have hρ:m'.ρ j=m.ρ j:=by
   have hs:=hT.step j
   rw [hl0,hl] at hs
   simp only [Inf.step] at hs
   rcases hs with hs|⟨_,he⟩|⟨v',n',sz',cap',hs,hlt⟩
   ·cases hs
   ·exact he
   ·simp only [Inf.live.injEq] at hs;omega
  obtain⟨k1,k2⟩:=h3.get
  refine⟨by rw [← k1];exact hl,c0,by rw [hρ];exact e1,by rw [e2,k1],fun i hi=>?_⟩
  obtain⟨u,hu,hvu⟩:=e3 i (by omega)
  exact⟨u,hu,hv _ _ _ (k2 i (by omega) hi) hvu⟩
 ·rw [h1] at hb
  rw [h2]
  have hj:hp K j=.arr ty s ver k f1:=by
   rw [h1] at hup
   simp only [upd] at hup
   split at hup
   ·cases hup
   ·exact hup.symm
  have hb0:=hS.blk j
  rw [hj] at hb0
  rcases hb with hb|⟨cap,c,hl,q0,q00,d1,d2,d3⟩
  ·exact .inl hb
  rcases hb0 with ⟨hn,_⟩|⟨cap0,c0,hl0,p0,p00,e1,e2,e3⟩
  ·have hs:=hT.step j
   rw [hn,hl] at hs
   simp only [Inf.step] at hs
   rcases hs with hs|hs
   ·cases hs
   ·rcases hs with ⟨v',n',sz',cap',hs,hlt⟩|hs
    ·simp only [Inf.live.injEq] at hs;omega
  have hρ:m'.ρ j=m.ρ j:=by
   have hs:=hT.step j
   rw [hl0,hl] at hs
   simp only [Inf.step] at hs
   rcases hs with hs|⟨_,he⟩|⟨v',n',sz',cap',hs,hlt⟩
   ·cases hs
   ·exact he
   ·simp only [Inf.live.injEq] at hs;omega
  have hcap:cap=cap0:=by
   have hs:=hT.step j
   rw [hl0,hl] at hs
   simp only [Inf.step] at hs
   rcases hs with hs|⟨he,_⟩|⟨v',n',sz',cap',hs,hlt⟩
   ·cases hs
   ·simp only [Inf.live.injEq] at he;omega
   ·simp only [Inf.live.injEq] at hs;omega
  subst hcap
  refine .inr ⟨cap,c0,hl,q0,q00,by rw [hρ];exact e1,e2,fun i hi=>?_⟩
  obtain⟨k1,k2⟩:=(h3 i hi).get
  obtain⟨x1,x2⟩:=e3 i hi
  refine⟨by omega,fun jj hjj=>?_⟩
  obtain⟨u,hu,hvu⟩:=x2 jj (by omega)
  exact⟨u,hu,hv _ _ _ (k2 jj (by omega) hjj) hvu⟩
theorem Wk1.fzx {N:Nat} {K K':List ABlk} {r ty sz n:Nat} {f:Nat→List AV} {a a':AV} (g:Nat→List PV) (hr:nth K r=some (.arr ty sz 0 n f)) (hg:∀ i,i<n→f i=pvs (g i))
  (hK:fsxK r sz n g (setN K r .dead) K') (ha:a.le a'):Wk1 N a K a' K':=fun w m u we me hT _ hS hV=>by
 obtain⟨m',h1,h2,h3⟩:=fzx_core hS hr hg hK
 exact⟨m',hT.trans h1,h2,h3 _ _ _ (.inl ha) hV⟩
end Go.AE
namespace Go.AE
inductive Fz (K:List ABlk):AV→PV→Prop where
 | p (v:PV):Fz K (.p v) v
 | sl (r ty sz ver N off n:Nat) (f:Nat→List AV) (g:Nat→List PV) (hr:nth K r=some (.arr ty sz ver N f)) (hn:off+n=N)
   (hl:∀ i,i<n→(f (off+i)).length=(g i).length) (h:∀ i,i<n→∀ j (hj:j<(f (off+i)).length) (hj':j<(g i).length),Fz K (f (off+i))[j] (g i)[j]):Fz K (.slr r ver off n) (.sl sz n g)
 | mp (r:Nat) (kt:KT) (g:MK→Option AV) (st:List (MK×Nat)) (g':MK→Option PV) (hr:nth K r=some (.mp kt g st)) (h0:∀ κ,κ.kt=kt→((g κ).isSome↔(g' κ).isSome))
   (h:∀ κ a p,κ.kt=kt→g κ=some a→g' κ=some p→Fz K a p):Fz K (.mref r) (.mp kt g')
inductive FzV (K:List ABlk):AV→AV→Prop where
 | p (a:AV) (v:PV) (h:Fz K a v):FzV K a (.p v)
 | box (r ty off:Nat) (cs:List AV) (ps:List PV) (hr:nth K r=some (.box ty cs)) (hl:cs.length=ps.length) (h:∀ j (hj:j<cs.length) (hj':j<ps.length),Fz K cs[j] ps[j]):FzV K (.ptr r 0 1 0 off) (.rop ps off)
 | rop (ps:List PV) (off:Nat):FzV K (.rop ps off) (.rop ps off)
 | agg (cs cs':List AV) (hl:cs.length=cs'.length) (h:∀ j (hj:j<cs.length) (hj':j<cs'.length),FzV K cs[j] cs'[j]):FzV K (.agg cs) (.agg cs')
 | tup (cs cs':List AV) (hl:cs.length=cs'.length) (h:∀ j (hj:j<cs.length) (hj':j<cs'.length),FzV K cs[j] cs'[j]):FzV K (.tup cs) (.tup cs')
 | iface (t:TypeId) (a a':AV) (h:FzV K a a'):FzV K (.iface t a) (.iface t a')
 | junk (a:AV):FzV K a .junk
def ABlk.ded:ABlk→ABlk
 | .absent=>.absent
 | _=>.dead
def deadK:List ABlk→List ABlk
 | []=>[]
 | b::l=>b.ded::deadK l
theorem hp_deadK (K:List ABlk) (r:Nat):hp (deadK K) r=(hp K r).ded:=by
 induction K generalizing r with
 | nil=>rfl
 | cons b K ih =>
  cases r with
  | zero=>rfl
  | succ r=>exact ih r
def Mp.frz (m:Mp):Mp:=⟨m.ρ,fun b=>m.I b∨∃ r,(m.L r).isLive∧m.ρ r=b,fun r=>match m.L r with | .absent=>.absent|_=>.dead⟩
theorem Mp.frz_live (m:Mp) (r:Nat):¬ (m.frz.L r).isLive:=by
 simp only [Mp.frz]
 split<;>simp [Inf.isLive]
theorem Tr.frz (w:World) (m:Mp):Tr w m w m.frz where
 os:=rfl
 tape:=rfl
 output:=rfl
 size:=Nat.le_refl _
 out:=fun _ _ _=>rfl
 imm:=fun _ h=>.inl h
 same:=fun _ _=>rfl
 newI:=fun b h=>by
  rcases h with h|h
  ·exact .inl h
  ·exact .inr (.inl h)
 step:=fun r=>by
  simp only [Mp.frz]
  cases m.L r with
  | absent=>trivial
  | dead=>rfl
  | nil v=>exact .inl rfl
  | live a b c d=>exact .inl rfl
 newρ:=fun r h=>absurd h (m.frz_live r)
theorem St.frz {w:World} {m:Mp} {K:List ABlk} (h:St w m (hp K)):St w m.frz (hp (deadK K)):=by
 refine⟨fun r1 r2 h1=>absurd h1 (m.frz_live r1),fun r h1=>absurd h1 (m.frz_live r),fun r h1=>absurd h1 (m.frz_live r),fun b hb=>?_,h.gl.mono (Tr.frz w m).imm (Tr.frz w m).same,fun r=>?_⟩
 ·rcases hb with hb|⟨r,h1,rfl⟩
  ·exact h.Ilt b hb
  ·exact h.lt r h1
 ·rw [hp_deadK]
  have hb:=h.blk r
  cases hk:hp K r with
  | absent=>rw [hk] at hb;simp only [BlkOk] at hb;simp [ABlk.ded,BlkOk,Mp.frz,hb]
  | dead=>rw [hk] at hb;simp only [BlkOk] at hb;simp [ABlk.ded,BlkOk,Mp.frz,hb]
  | box ty cs=>rw [hk] at hb;simp [ABlk.ded,BlkOk,Mp.frz,hb.1]
  | lp=>rw [hk] at hb;simp [ABlk.ded,BlkOk,Mp.frz,hb.1]
  | mp=>rw [hk] at hb;simp [ABlk.ded,BlkOk,Mp.frz,hb.1]
  | arr ty sz ver n f =>
   rw [hk] at hb
   rcases hb with ⟨hb,_⟩|⟨cap,c,hb,_⟩<;>simp [ABlk.ded,BlkOk,Mp.frz,hb]
theorem Fz.ok {w:World} {m:Mp} {K:List ABlk} (hS:St w m (hp K)) {a:AV} {p:PV} (h:Fz K a p):∀ {u:Value},V w m a u→VP w m.frz.I p u:=by
 induction h with
 | p v =>
  intro u hV
  cases hV with
  | p _ _ h=>exact h.mono (Tr.frz w m).imm (fun _ _=>rfl)
 | sl r ty sz ver N off n f g hr hn hl h ih =>
  intro u hV
  have hb:=hS.blk r
  rw [hp_nth hr] at hb
  cases hV with
  | slr _ _ _ _ N' sz' cap' hL hn' =>
   rcases hb with ⟨hb,_⟩|⟨cap,c,hb,h0,h00,h1,h2,h3⟩
   ·rw [hL] at hb;simp at hb
   rw [hL] at hb
   injection hb with _ e2 e3 e4
   subst e3 e4
   have hlive:(m.L r).isLive:=by rw [hL];trivial
   have hc:∀ i,i<n→∀ j,j<(g i).length→∃ x,c[(off+i)*sz'+j]?=some x∧VP w m.frz.I ((g i).getD j .nilp) x:=fun i hi j hj=>by
    have hj2:j<(f (off+i)).length:=by rw [hl i hi];exact hj
    obtain⟨x,h4,h5⟩:=(h3 (off+i) (by omega)).2 j hj2
    have:=ih i hi j hj2 hj h5
    refine⟨x,h4,?_⟩
    rw [List.getD_eq_getElem?_getD,List.getElem?_eq_getElem hj]
    exact this
   refine .sl sz' n g (m.ρ r) (off*sz') (cap' - off) (fun i j=>(c[(off+i)*sz'+j]?).getD undef) (.inr ⟨r,hlive,rfl⟩) ⟨by omega,by omega⟩ (fun i hi j hj=>?_) (fun i hi j hj=>?_)
   ·obtain⟨x,h4,_⟩:=hc i hi j hj
    rw [cell_of_row w _ _ c ty (0,0) h1,show off*sz'+(i*sz'+j)=(off+i)*sz'+j by rw [Nat.add_mul];omega,h4]
    rfl
   ·obtain⟨x,h4,h5⟩:=hc i hi j hj
    rw [h4]
    rw [List.getD_eq_getElem?_getD,List.getElem?_eq_getElem hj] at h5
    exact h5
  | slrNil _ _ _ hL=>exact .sl0 ..
  | slrEnd _ _ _ _ _ _ hL=>exact .sl0 ..
  | slrOld _ _ _ _ ad c hold =>
   exfalso
   rcases hb with ⟨hb,h0⟩|⟨cap,c,hb,_⟩
   ·rw [hb] at hold;simp [Inf.old] at hold
   ·rw [hb] at hold;simp [Inf.old] at hold;omega
 | mp r kt g st g' hr h0 h ih =>
  intro u hV
  have hb:=hS.blk r
  rw [hp_nth hr] at hb
  obtain⟨hl,es,clock,r2,h1,h2⟩:=hb
  cases hV with
  | mref _ sz cap hL =>
   have hlive:(m.L r).isLive:=by rw [hL];trivial
   refine .mp kt g' (m.ρ r) es clock r2 (.inr ⟨r,hlive,rfl⟩) h1 h2.is (fun κ hk hg=>?_) (fun κ p hk hg=>?_) (fun κ p i u hk hg hr=>?_)
   ·refine h2.no κ hk ?_
    cases hq:g κ with
    | none=>rfl
    | some a=>have:=(h0 κ hk).1 (by rw [hq];rfl);rw [hg] at this;simp at this
   ·have:=(h0 κ hk).2 (by rw [hg];rfl)
    cases hq:g κ with
    | none=>rw [hq] at this;simp at this
    | some a=>obtain⟨i,u,h3,_⟩:=h2.yes κ a hk hq;rw [h3];rfl
   ·have:=(h0 κ hk).2 (by rw [hg];rfl)
    cases hq:g κ with
    | none=>rw [hq] at this;simp at this
    | some a =>
     obtain⟨i',u',h3,h4⟩:=h2.yes κ a hk hq
     rw [hr] at h3
     simp only [Option.some.injEq,Prod.mk.injEq] at h3
     obtain⟨rfl,rfl⟩:=h3
     exact ih κ a p hk hq hg h4
  | mrefOld _ b hold=>rw [hl] at hold;simp [Inf.old] at hold
theorem FzV.ok {w:World} {m:Mp} {K:List ABlk} (hS:St w m (hp K)) {a a':AV} (h:FzV K a a'):∀ {u:Value},V w m a u→V w m.frz a' u:=by
 induction h with
 | p a v h=>intro u hV;exact .p v u (h.ok hS hV)
 | box r ty off cs ps hr hl h =>
  intro u hV
  have hb:=hS.blk r
  rw [hp_nth hr] at hb
  obtain⟨hL0,c,h1,h2,h3⟩:=hb
  cases hV with
  | ptr _ _ _ _ _ sz cap hL hi =>
   have hlive:(m.L r).isLive:=by rw [hL];trivial
   have hc:∀ j (hj:j<ps.length),∃ x,c[j]?=some x∧VP w m.frz.I ps[j] x:=fun j hj=>by
    obtain⟨x,h4,h5⟩:=h3 j (by omega)
    exact⟨x,h4,(h j (by omega) hj).ok hS h5⟩
   simp only [Nat.zero_mul]
   refine .rop (m:=m.frz) ps off (m.ρ r) 0 (fun j=>(c[j]?).getD undef) (.inr ⟨r,hlive,rfl⟩) (fun j hj=>?_) (fun j hj=>?_)
   ·obtain⟨x,h4,_⟩:=hc j hj
    rw [cell_of_row w _ _ c ty (0,0) h1,Nat.zero_add,h4];rfl
   ·obtain⟨x,h4,h5⟩:=hc j hj
    rw [h4];exact h5
  | ptrOld _ _ _ _ _ b o hold=>rw [hL0] at hold;simp [Inf.old] at hold
 | rop ps off=>intro u hV;exact hV.mono (Tr.frz w m)
 | agg cs cs' hl h ih =>
  intro u hV
  cases hV with
  | agg _ A hA hv=>exact .agg _ A (by omega) fun j hj hj'=>ih j (by omega) hj (hv j (by omega) hj')
 | tup cs cs' hl h ih =>
  intro u hV
  cases hV with
  | tup _ A hA hv=>exact .tup _ A (by omega) fun j hj hj'=>ih j (by omega) hj (hv j (by omega) hj')
 | iface t a a' h ih =>
  intro u hV
  cases hV with
  | iface _ _ u hv=>exact .iface t _ u (ih hv)
 | junk a=>intro u _;exact .junk u
theorem Wk1.fzAll {N:Nat} {K:List ABlk} {a a':AV} (h:FzV K a a'):Wk1 N a K a' (deadK K):=fun w m u we me hT _ hS hV =>
 ⟨m.frz,hT.trans (Tr.frz w m),hS.frz,h.ok hS hV⟩
end Go.AE
namespace Go.AE
theorem MGet.of_some {o:Option AV} {a:AV} {y:AV→Prop} {n:Prop} (h:o=some a) (hy:y a):MGet o y n :=
 MGet.mk (fun b hb=>by rw [h] at hb;cases hb;exact hy) (fun hn=>by rw [h] at hn;cases hn)
theorem MGet.of_none {o:Option AV} {y:AV→Prop} {n:Prop} (h:o=none) (hn:n):MGet o y n :=
 MGet.mk (fun b hb=>by rw [h] at hb;cases hb) (fun _=>hn)
def pvO:Option PV→Option AV
 | none=>none
 | some p=>some (.p p)
theorem MGet.pv_some {o:Option PV} {p:PV} {y:AV→Prop} {n:Prop} (h:o=some p) (hy:y (.p p)):MGet (pvO o) y n:=by
 subst h;exact MGet.of_some rfl hy
theorem MGet.pv_none {o:Option PV} {y:AV→Prop} {n:Prop} (h:o=none) (hn:n):MGet (pvO o) y n:=by
 subst h;exact MGet.of_none rfl hn
end Go.AE
namespace Go.Proofs.YtcmepkfefoidcaaGreatDoor
open Go.AE Go.Ru
set_option maxRecDepth 100000
set_option maxHeartbeats 1000000
theorem wzz {i:Nat} (h:i<9223372036854775807):IntKind.i64.wrap ((i:Int)+1)=((i+1:Nat):Int):=by rw [w64 ⟨by omega,by omega⟩];omega
def rowF (f:Nat→Int) (i:Nat):List PV:=[.int .i64 (f i)]
def rowA (n:Nat) (f:Nat→Int):ABlk:=.arr 3 1 0 n (fun i=>pvs (rowF f i))
theorem rowA_set {n k k':Nat} {g:Nat→List AV} {f:Nat→Int} {v:Int} {c:List AV} (hc:c=[intV v]) (hk:k'=k) (hg:∀ i,i<n→g i=[intV (f i)]) :
  (ABlk.arr 3 1 0 n (updF g k' c)).le (rowA n (setF f k v)):=by
 subst hc hk
 refine ABlk.arr_eq rfl fun i hi=>?_
 unfold updF setF rowF
 by_cases h:i=k'
 ·subst h;simp only [Nat.beq_refl,if_true];rfl
 ·simp only [h,if_false]
  rw [show Nat.beq i k'=false from by rw [← Bool.not_eq_true];exact fun e=>h (Nat.eq_of_beq_eq_true e)]
  exact hg i hi
theorem rowA_cl (n:Nat) (f:Nat→Int) (m:Nat):(rowA n f).cl m:=fun _ _=>rfl
theorem rowU_cl {n k':Nat} {g:Nat→List AV} {f:Nat→Int} {v:Int} {c:List AV} (m:Nat) (hc:c=[intV v]) (hg:∀ i,i<n→g i=[intV (f i)]):(ABlk.arr 3 1 0 n (updF g k' c)).cl m:=by
 subst hc
 intro i hi
 unfold updF
 split
 ·rfl
 ·rw [hg i hi];rfl
structure PC where
 i:Nat
 f:Nat→Int
def gSd:AG:=gput 112 cSound g0
theorem gSd_ok:GOk Tryz.prog gSd:=gput_ok sound_ok g0_ok
def parV (ns:List Nd) (root:Int):AV:=match soundS ns root with
 | true=>.p (.sl 1 ns.length (rowF (parF ns root)))
 | false=>.p .nils
def cParents:AC:=fun args K k=>∃ ns root,args=[treeV ns root]∧List.length ns<1000000∧k (.ret (parV ns root)) K
theorem parents_ok:COk 118 cParents:=by
 rintro args K k ⟨ns,root,rfl,hn,hk⟩
 refine frame0W gSd_ok 19 rfl fun Q hr=>?_
 conv=>whnf
 refine⟨ns,root,rfl,hn,?_⟩
 cases hs:soundS ns root with
 | false =>
  simp only [parV,hs] at hk
  conv=>whnf
  exact hr _ _ _ _ (Wk1.refl _ _ _) rfl hk
 | true =>
  simp only [parV,hs] at hk
  have st:=std_of hs
  have hl:=st.len
  have hp:=st.pos
  have hrt:=st.rt
  conv=>whnf
  refine⟨⟨by omega,by omega,by omega,?_⟩,?_⟩
  ·show (8:Int)*(ns.length:Int)≤140737488355328
   omega
  conv=>whnf
  refine⟨⟨rfl,Nat.zero_add _,by omega,by omega,rfl⟩,?_⟩
  conv=>whnf
  refine⟨⟨rfl,rfl⟩,?_⟩
  conv=>whnf
  refine loop_up (ι:=PC) [2,3,20,21] (fun c=>[(22,intV c.i)]) (fun c=>[(1,rowA ns.length c.f)]) (fun c=>c.i≤ns.length∧parNs c.i (ns.drop c.i) c.f=parF ns root) (fun c=>ns.length - c.i) ⟨0,setF (fun _=>0) root.toNat (-1)⟩
   ⟨AV.le_refl _,trivial⟩ ⟨upLe1 rfl (rowA_set rfl (Nat.zero_add _) (fun _ _=>rfl)),trivial⟩ ⟨Nat.zero_le _,rfl⟩ ?_
  rintro Y hle ⟨i,f⟩ ⟨hi,he⟩ ih
  simp only at hi he
  conv=>whnf
  refine two_dec (fun h=>?_) (fun h=>?_)
  ·have h:i<ns.length:=by have h:(i:Int)<(ns.length:Int):=h;omega
   have hw1:=wzz (i:=i) (by omega)
   have hkm:=st.many i h
   have hkk:=st.kid i h
   rw [List.drop_eq_getElem_cons h] at he
   have e1:ns.getD i default=ns[i]:=by simp [h]
   rw [← e1] at he
   simp only [parNs] at he
   conv=>whnf
   repeat' (first|((first|refine two_eq ?_ ?_|refine two_ne ?_ ?_|refine two_not ?_ ?_|refine two_dec ?_ ?_|refine two_intro ?_ ?_)<;>intro h<;>conv=>whnf)|((first|refine Chk.mk ?_ ?_|refine And.intro ?_ ?_);(focus (((repeat' (refine And.intro ?_ ?_))<;>(first|omega|rfl|(simp only [List.length_append,List.length_cons,List.length_nil];omega)|fail));done));conv=>whnf)|(refine Exists.intro _ (And.intro rfl ?_))|(refine Exists.intro _ (Exists.intro _ (And.intro rfl ?_)))|(refine Exists.intro _ (Exists.intro _ (Exists.intro _ (And.intro rfl ?_))))|fail)
   refine loop_up (ι:=PC) [2,3,4,20,21,22,28,29] (fun c=>[(30,intV c.i)]) (fun c=>[(1,rowA ns.length c.f)]) (fun c=>c.i≤(nd ns i).kids.length∧parKids i ((nd ns i).kids.drop c.i) c.f=parKids i (nd ns i).kids f) (fun c=>(nd ns i).kids.length - c.i) ⟨0,f⟩
    ⟨AV.le_refl _,trivial⟩ ⟨upLe1 rfl (ABlk.le_refl _),trivial⟩ ⟨Nat.zero_le _,rfl⟩ ?_
   rintro Z hlz ⟨j,g⟩ ⟨hj,hg⟩ ihz
   simp only at hj hg
   conv=>whnf
   refine two_dec (fun h2=>?_) (fun h2=>?_)
   ·have h2:j<(nd ns i).kids.length:=by have h2:(j:Int)<((nd ns i).kids.length:Int):=h2;omega
    have hw2:=wzz (i:=j) (by omega)
    rw [List.drop_eq_getElem_cons h2] at hg
    simp only [parKids] at hg
    have hm:=hkk _ (List.getElem_mem h2)
    have e2:(nd ns i).kids.getD j 0=(nd ns i).kids[j]:=by simp [h2]
    rw [← e2] at hg hm
    conv=>whnf
    refine⟨⟨by omega,by show (j:Int)<((nd ns i).kids.length:Int);omega,rfl⟩,?_⟩
    conv=>whnf
    refine⟨⟨rfl,Nat.zero_add _,by show 0≤(nd ns i).kids.getD j 0;omega,by show (nd ns i).kids.getD j 0<(ns.length:Int);omega,rfl⟩,?_⟩
    conv=>whnf
    refine⟨⟨rfl,rfl⟩,?_⟩
    conv=>whnf
    refine hlz _ _ (Le.cutEnv 3 rfl rfl ⟨rfl,rowU_cl (f:=g) 3 rfl (fun _ _=>rfl),rfl,trivial⟩ ?_ ?_) (ihz ⟨j+1,setF g ((nd ns i).kids.getD j 0).toNat i⟩ (by show _ - (j+1)<_ - j;omega) ⟨h2,hg⟩)
    ·skip
     repeat' (first|exact trivial|((conv=>whnf);first|exact trivial|refine⟨AV.le_refl _,?_⟩|refine⟨ABlk.le_refl _,?_⟩|(refine⟨AV.le_of_eq ?_,?_⟩;focus ((first|exact congrArg intV hw2|fail);done))|(refine⟨ABlk.le_of_eq ?_,?_⟩;focus ((first|exact congrArg intV hw2|fail);done))|fail)|fail)
    ·(conv=>whnf)
     refine⟨ABlk.le_refl _,?_⟩
     (conv=>whnf)
     refine⟨rowA_set rfl (Nat.zero_add _) (fun _ _=>rfl),?_⟩
     repeat' (first|exact trivial|((conv=>whnf);first|exact trivial|refine⟨AV.le_refl _,?_⟩|refine⟨ABlk.le_refl _,?_⟩|fail)|fail)
   ·obtain rfl:j=(nd ns i).kids.length:=by have h2:¬ (j:Int)<((nd ns i).kids.length:Int):=h2;omega
    rw [List.drop_length] at hg
    simp only [parKids] at hg
    conv=>whnf
    refine hle _ _ (Le.cutEnv 2 rfl rfl ⟨rfl,rowA_cl _ _ _,trivial⟩ ?_ ?_) (ih ⟨i+1,g⟩ (by show _ - (i+1)<_ - i;omega) ⟨h,by rw [hg];exact he⟩)
    ·skip
     repeat' (first|exact trivial|((conv=>whnf);first|exact trivial|refine⟨AV.le_refl _,?_⟩|refine⟨ABlk.le_refl _,?_⟩|(refine⟨AV.le_of_eq ?_,?_⟩;focus ((first|exact congrArg intV hw1|fail);done))|(refine⟨ABlk.le_of_eq ?_,?_⟩;focus ((first|exact congrArg intV hw1|fail);done))|fail)|fail)
    ·skip
     repeat' (first|exact trivial|((conv=>whnf);first|exact trivial|refine⟨AV.le_refl _,?_⟩|refine⟨ABlk.le_refl _,?_⟩|fail)|fail)
  ·obtain rfl:i=ns.length:=by have h:¬ (i:Int)<(ns.length:Int):=h;omega
   rw [List.drop_length] at he
   simp only [parNs] at he
   subst he
   conv=>whnf
   exact hr _ _ _ _ (Wk1.freeze (r:=1) rfl (rowF (parF ns root)) (fun _ _=>rfl)) rfl hk
def strM (f:Bs→Option Nat) (κ:MK):Option PV:=match κ with
 | .s l=>match f l with
  | some j=>some (.int .i64 (j:Int))
  | none=>none
 | .i _ _=>none
def isProcB (ns:List Nd) (o:Int):Bool:=decide (0≤o)&&(decide (o<ns.length)&&(nd ns o.toNat).k==3)
def locM (ns:List Nd) (root:Int) (κ:MK):Option PV:=match κ with
 | .i _ o=>match isProcB ns o with
  | true=>some (.mp .str (strM (locS ns root o)))
  | false=>none
 | .s _=>none
def scC (ns:List Nd) (root:Int):List PV:=[.sl 5 ns.length (nodeF ns),.int .i64 root,.sl 1 ns.length (rowF (own ns root)),.mp .str (strM (globS ns)),.mp .str (strM (tprocS ns)),.mp (.int .i64) (locM ns root)]
def scV (ns:List Nd) (root:Int):AV:=.rop (scC ns root) 0
theorem strM_some {f:Bs→Option Nat} {l:Bs} {j:Nat} (h:f l=some j):strM f (.s l)=some (.int .i64 (j:Int)):=by simp only [strM,h]
theorem strM_none {f:Bs→Option Nat} {l:Bs} (h:f l=none):strM f (.s l)=none:=by simp only [strM,h]
theorem locM_yes {ns:List Nd} {root o:Int} {q:IntKind} (h:isProcB ns o=true):locM ns root (.i q o)=some (.mp .str (strM (locS ns root o))):=by simp only [locM,h]
theorem isProcB_own {ns:List Nd} {root:Int} (h:Std ns root) {i:Nat} (hi:i<ns.length) (ho:own ns root i≠-1):isProcB ns (own ns root i)=true:=by
 rcases own_range h hi with e|⟨e1,e2,e3⟩
 ·exact absurd e ho
 ·simp only [isProcB,e3,beq_self_eq_true,Bool.and_true,Bool.and_eq_true,decide_eq_true_eq];omega
def cMeans:AC:=fun args K k=>∃ ns root i name,args=[scV ns root,.p (.int .i64 ((i:Nat):Int)),.p (.str name)]∧Std ns root∧i<ns.length∧k (.ret (intV (meansS ns root i name))) K
theorem means_ok:COk 180 cMeans:=by
 rintro args K k ⟨ns,root,i,name,rfl,st,hi,hk⟩
 refine frame0P g0_ok 19 rfl fun Q hr=>?_
 unfold meansS at hk
 conv=>whnf
 refine⟨⟨by omega,by omega,rfl⟩,?_⟩
 conv=>whnf
 refine two_eq (fun h=>?_) (fun h=>?_)
 ·have h:own ns root i=-1:=h
  rw [h] at hk
  conv=>whnf
  exact hr _ _ rfl hk
 have h:own ns root i≠-1:=h
 rw [show (own ns root i==-1)=false from beq_eq_false_iff_ne.2 h] at hk
 conv=>whnf
 refine MGet.pv_some (locM_yes (isProcB_own st hi h)) ?_
 conv=>whnf
 cases hl:locS ns root (own ns root i) name with
 | some d =>
  rw [hl] at hk
  refine MGet.pv_some (strM_some hl) ?_
  conv=>whnf
  exact hr _ _ rfl hk
 | none =>
  rw [hl] at hk
  refine MGet.pv_none (strM_none hl) ?_
  conv=>whnf
  cases hg:globS ns name with
  | some d =>
   rw [hg] at hk
   refine MGet.pv_some (strM_some hg) ?_
   conv=>whnf
   exact hr _ _ rfl hk
  | none =>
   rw [hg] at hk
   refine MGet.pv_none (strM_none hg) ?_
   conv=>whnf
   exact hr _ _ rfl hk
def cTProc:AC:=fun args K k=>∃ ns root name,args=[scV ns root,.p (.str name)]∧k (.ret (intV (procI ns name))) K
theorem proc_ok':COk 80 cTProc:=by
 rintro args K k ⟨ns,root,name,rfl,hk⟩
 refine frame0P g0_ok 19 rfl fun Q hr=>?_
 unfold procI at hk
 conv=>whnf
 cases hg:tprocS ns name with
 | some d =>
  rw [hg] at hk
  refine MGet.pv_some (strM_some hg) ?_
  conv=>whnf
  exact hr _ _ rfl hk
 | none =>
  rw [hg] at hk
  refine MGet.pv_none (strM_none hg) ?_
  conv=>whnf
  exact hr _ _ rfl hk
def gMe:AG:=gput 180 cMeans g0
theorem gMe_ok:GOk Tryz.prog gMe:=gput_ok means_ok g0_ok
def cKind:AC:=fun args K k=>∃ ns root i name,args=[scV ns root,.p (.int .i64 ((i:Nat):Int)),.p (.str name)]∧Std ns root∧i<ns.length∧k (.ret (intV (kindS ns root i name))) K
theorem kind_ok:COk 181 cKind:=by
 rintro args K k ⟨ns,root,i,name,rfl,st,hi,hk⟩
 refine frame0P gMe_ok 19 rfl fun Q hr=>?_
 unfold kindS at hk
 conv=>whnf
 refine⟨ns,root,i,name,rfl,st,hi,?_⟩
 conv=>whnf
 have hm:=means_range ns root i name
 generalize meansS ns root i name=d at hk hm
 refine two_ne (fun h=>?_) (fun h=>?_)
 ·have h:d≠-1:=h
  rw [show (d != -1)=true from bne_iff_ne.2 h] at hk
  conv=>whnf
  refine⟨⟨by omega,by omega,rfl⟩,?_⟩
  conv=>whnf
  exact hr _ _ rfl hk
 ·have h:d=-1:=h
  subst h
  conv=>whnf
  exact hr _ _ rfl hk
def kiB (l:List Int):ABlk:=.arr 3 1 0 l.length (fun i=>pvs (kidF l i))
theorem kiB_snoc (l:List Int) (x:Int) (f:Nat→List AV) (hf:f 0=[intV x]):(ABlk.arr 3 1 0 (l.length+1) (catF l.length (fun i=>pvs (kidF l i)) f)).le (kiB (l++[x])):=by
 refine ABlk.arr_eq (by simp) fun i hi=>?_
 by_cases h:i<l.length
 ·rw [catF_lt h]
  simp [kidF,List.getD_eq_getElem?_getD,List.getElem?_append_left h]
 ·obtain rfl:i=l.length:=by omega
  rw [catF_ge (Nat.le_refl _),Nat.sub_self,hf]
  simp [kidF,List.getD_eq_getElem?_getD,pvs,intV]
theorem kiB_cl (l:List Int) (x:Int) (f:Nat→List AV) (n:Nat) (hf:f 0=[intV x]):(ABlk.arr 3 1 0 (l.length+1) (catF l.length (fun i=>pvs (kidF l i)) f)).cl n:=fun i hi=>by
 by_cases h:i<l.length
 ·rw [catF_lt h];rfl
 ·obtain rfl:i=l.length:=by omega
  rw [catF_ge (Nat.le_refl _),Nat.sub_self,hf];rfl
structure KC where
 j:Nat
 l:List Int
def parsL (ns:List Nd) (ks:List Int):List Int:=(ks.filter fun q=>(nd ns q.toNat).k==4).map fun q=>(nd ns q.toNat).n
def intsV (l:List Int):AV:=.p (.sl 1 l.length (kidF l))
def cParams:AC:=fun args K k=>∃ ns root p,args=[scV ns root,.p (.int .i64 ((p:Nat):Int))]∧Std ns root∧p<ns.length∧k (.ret (intsV (paramsS ns p))) K
theorem params_ok:COk 81 cParams:=by
 rintro args K k ⟨ns,root,p,rfl,st,hp,hk⟩
 have hlen:=st.len
 have hmany:=st.many p hp
 have hkid:=st.kid p hp
 refine frame0W g0_ok 19 rfl fun Q hr=>?_
 conv=>whnf
 refine⟨⟨by omega,by omega,rfl⟩,?_⟩
 conv=>whnf
 refine loop_nil (ι:=KC) 3 1 (fun i=>pvs (kidF [] i)) (fun c=>⟨[(0,scV ns root),(17,.p (.sl 1 (nd ns p).kids.length (kidF (nd ns p).kids))),(18,intV (nd ns p).kids.length),(19,intV c.j),(5,.slr 0 0 0 c.l.length)],[kiB c.l]⟩)
  (fun c=>c.j≤(nd ns p).kids.length∧c.l.length≤c.j∧c.l++parsL ns ((nd ns p).kids.drop c.j)=paramsS ns p) (fun c=>(nd ns p).kids.length - c.j) ⟨0,[]⟩ []
  rfl ⟨.inl (AV.le_refl _),.inl (AV.le_refl _),.inl (AV.le_refl _),.inl (AV.le_refl _),.inr ⟨rfl,rfl⟩,trivial⟩ trivial rfl ⟨Nat.zero_le _,Nat.le_refl _,rfl⟩ ?_
 rintro Y hle ⟨j,l⟩ ⟨hj,hl,he⟩ ih
 simp only at hj hl he
 conv=>whnf
 refine two_dec (fun h=>?_) (fun h=>?_)
 ·have h:j<(nd ns p).kids.length:=by have h:(j:Int)<((nd ns p).kids.length:Int):=h;omega
  have hw1:=wzz (i:=j) (by omega)
  rw [List.drop_eq_getElem_cons h] at he
  have e1:(nd ns p).kids.getD j 0=(nd ns p).kids[j]:=by simp [h]
  have hm:=hkid _ (List.getElem_mem h)
  rw [← e1] at he hm
  generalize hq:(nd ns p).kids.getD j 0=q at he hm
  have hq':(nd ns p).kids.getD (j:Int).toNat 0=q:=hq
  conv=>whnf
  refine⟨⟨by omega,by show (j:Int)<((nd ns p).kids.length:Int);omega,rfl⟩,?_⟩
  conv=>whnf
  refine⟨⟨by rw [hq'];omega,by rw [hq'];omega,rfl⟩,?_⟩
  conv=>whnf
  refine two_eq (fun h4=>?_) (fun h4=>?_)
  ·have h4:(nd ns ((nd ns p).kids.getD (j:Int).toNat 0).toNat).k=4:=h4
   rw [hq'] at h4
   have he:(l++[(nd ns q.toNat).n])++parsL ns ((nd ns p).kids.drop (j+1))=paramsS ns p:=by
    rw [← he];simp [parsL,h4]
   conv=>whnf
   refine⟨⟨rfl,rfl,rfl,allLt_ok ⟨trivial,rfl⟩⟩,?_⟩
   conv=>whnf
   refine⟨⟨rfl,rfl,rfl,rfl,?_,?_⟩,?_⟩
   ·show (l.length+1)*8≤140737488355328
    omega
   ·show l.length+1≤9223372036854775807
    omega
   conv=>whnf
   refine hle _ _ (Le.cutEnv 1 rfl rfl ⟨kiB_cl l _ _ 1 rfl,trivial⟩ ?_ ?_) (ih ⟨j+1,l++[(nd ns q.toNat).n]⟩ (by show _ - (j+1)<_ - j;omega) ⟨h,by simp;omega,he⟩)
   ·skip
    repeat' (first|exact trivial|((conv=>whnf);first|exact trivial|refine⟨AV.le_refl _,?_⟩|refine⟨ABlk.le_refl _,?_⟩|(refine⟨AV.le_of_eq ?_,?_⟩;focus ((first|exact congrArg intV hw1|exact congrArg (fun n=>AV.slr 0 0 0 n) (by simp)|fail);done))|(refine⟨ABlk.le_of_eq ?_,?_⟩;focus ((first|exact congrArg intV hw1|exact congrArg (fun n=>AV.slr 0 0 0 n) (by simp)|fail);done))|fail)|fail)
   ·(conv=>whnf)
    refine⟨kiB_snoc l _ _ (congrArg (fun q:Int=>[intV (nd ns q.toNat).n]) hq'),?_⟩
    trivial
  ·have h4:(nd ns ((nd ns p).kids.getD (j:Int).toNat 0).toNat).k≠4:=h4
   rw [hq'] at h4
   have he:l++parsL ns ((nd ns p).kids.drop (j+1))=paramsS ns p:=by
    rw [← he];simp [parsL,h4]
   conv=>whnf
   refine hle _ _ (Le.cutEnv 1 rfl rfl ⟨fun _ _=>rfl,trivial⟩ ?_ ?_) (ih ⟨j+1,l⟩ (by show _ - (j+1)<_ - j;omega) ⟨h,by show l.length≤j+1;omega,he⟩)
   ·skip
    repeat' (first|exact trivial|((conv=>whnf);first|exact trivial|refine⟨AV.le_refl _,?_⟩|refine⟨ABlk.le_refl _,?_⟩|(refine⟨AV.le_of_eq ?_,?_⟩;focus ((first|exact congrArg intV hw1|fail);done))|(refine⟨ABlk.le_of_eq ?_,?_⟩;focus ((first|exact congrArg intV hw1|fail);done))|fail)|fail)
   ·skip
    repeat' (first|exact trivial|((conv=>whnf);first|exact trivial|refine⟨AV.le_refl _,?_⟩|refine⟨ABlk.le_refl _,?_⟩|fail)|fail)
 ·obtain rfl:j=(nd ns p).kids.length:=by have h:¬ (j:Int)<((nd ns p).kids.length:Int):=h;omega
  rw [List.drop_length] at he
  simp only [parsL,List.filter_nil,List.map_nil,List.append_nil] at he
  subst he
  conv=>whnf
  exact hr _ _ _ _ (Wk1.freeze (r:=0) rfl (kidF (paramsS ns p)) (fun _ _=>rfl)) rfl hk
theorem list_eq_len {a b:List Int} (h:a.length=b.length) (h':∀ i,i<a.length→a.getD i 0=b.getD i 0):a=b:=by
 refine List.ext_getElem h fun i h1 h2=>?_
 have:=h' i h1
 simpa [h1,h2] using this
def cTEqI:AC:=fun args K k=>∃ (a b:List Int) (f:Nat→List AV) (X:List ABlk),args=[intsV a,.slr 0 0 0 b.length]∧K=[.arr 3 1 0 b.length f]++X∧a.length<1000000∧(∀ i,i<b.length→f i=[intV (b.getD i 0)]) ∧
 k (.ret (.p (.bool (a==b)))) ([.arr 3 1 0 b.length f]++X)
theorem teqI_ok:COk 184 cTEqI:=by
 rintro args K k ⟨a,b,f,X,rfl,rfl,ha,hf,hk⟩
 refine frameG (K0:=[.arr 3 1 0 b.length f]) g0_ok 19 rfl ⟨fun i hi=>by rw [hf i hi];rfl,trivial⟩ fun Q hr=>?_
 conv=>whnf
 refine two_ne (fun h=>?_) (fun h=>?_)
 ·have h:(a.length:Int)≠(b.length:Int):=h
  conv=>whnf
  refine hr _ _ _ _ rfl rfl ⟨fun i hi=>by rw [hf i hi];rfl,trivial⟩ (AV.le_of_eq ?_) (lesK.refl _) hk
  have:a≠b:=fun e=>h (by rw [e])
  rw [beq_eq_false_iff_ne.2 this]
 have h:a.length=b.length:=by have h:(a.length:Int)=(b.length:Int):=h;omega
 conv=>whnf
 refine loop_up (ι:=Nat) [0,1,12] (fun i=>[(13,intV i)]) (fun _=>[]) (fun i=>i≤a.length∧∀ j,j<i→a.getD j 0=b.getD j 0) (fun i=>a.length - i) 0 ⟨AV.le_refl _,trivial⟩ trivial ⟨Nat.zero_le _,fun j hj=>absurd hj (Nat.not_lt_zero j)⟩ ?_
 rintro Y hle i ⟨hi,he⟩ ih
 conv=>whnf
 refine two_dec (fun h2=>?_) (fun h2=>?_)
 ·have h2:i<a.length:=by have h2:(i:Int)<(a.length:Int):=h2;omega
  have hw1:=wzz (i:=i) (by omega)
  conv=>whnf
  refine⟨⟨by omega,by omega,rfl⟩,?_⟩
  conv=>whnf
  refine⟨⟨rfl,Nat.zero_add _,by omega,by omega,rfl⟩,?_⟩
  conv=>whnf
  refine⟨⟨rfl,rfl⟩,?_⟩
  have hf2:f (0+(i:Int).toNat)=[intV (b.getD i 0)]:=by rw [Nat.zero_add];exact hf i (by omega)
  rw [hf2]
  conv=>whnf
  refine two_ne (fun h3=>?_) (fun h3=>?_)
  ·have h3:a.getD i 0≠b.getD i 0:=h3
   conv=>whnf
   refine hr _ _ _ _ rfl rfl ⟨fun i hi=>by rw [hf i hi];rfl,trivial⟩ (AV.le_of_eq ?_) (lesK.refl _) hk
   have:a≠b:=fun e=>h3 (by rw [e])
   rw [beq_eq_false_iff_ne.2 this]
  ·have h3:a.getD i 0=b.getD i 0:=h3
   conv=>whnf
   refine hle _ _ (Le.env ?_ ?_) (ih (i+1) (by omega) ⟨by omega,fun j hj=>?_⟩)
   ·skip
    repeat' (first|exact trivial|((conv=>whnf);first|exact trivial|refine⟨AV.le_refl _,?_⟩|refine⟨ABlk.le_refl _,?_⟩|(refine⟨AV.le_of_eq ?_,?_⟩;focus ((first|exact congrArg intV hw1|fail);done))|(refine⟨ABlk.le_of_eq ?_,?_⟩;focus ((first|exact congrArg intV hw1|fail);done))|fail)|fail)
   ·skip
    repeat' (first|exact trivial|((conv=>whnf);first|exact trivial|refine⟨AV.le_refl _,?_⟩|refine⟨ABlk.le_refl _,?_⟩|fail)|fail)
   ·by_cases e:j=i
    ·subst e;exact h3
    ·exact he j (by omega)
 ·obtain rfl:i=a.length:=by have h2:¬ (i:Int)<(a.length:Int):=h2;omega
  conv=>whnf
  refine hr _ _ _ _ rfl rfl ⟨fun i hi=>by rw [hf i hi];rfl,trivial⟩ (AV.le_of_eq ?_) (lesK.refl _) hk
  rw [list_eq_len h he,beq_self_eq_true]
def gTPl:AG:=gput 81 cParams (gput 184 cTEqI g0)
theorem gTPl_ok:GOk Tryz.prog gTPl:=gput_ok params_ok (gput_ok teqI_ok g0_ok)
def cTPlain:AC:=fun args K k=>∃ ns root p,args=[scV ns root,.p (.int .i64 ((p:Nat):Int))]∧Std ns root∧p<ns.length∧k (.ret (.p (.bool (tplainS ns p)))) K
theorem params_le (ns:List Nd) (p:Nat):(paramsS ns p).length≤(nd ns p).kids.length:=by
 unfold paramsS;rw [List.length_map];exact List.length_filter_le _ _
theorem tplain_ok:COk 129 cTPlain:=by
 rintro args K k ⟨ns,root,p,rfl,st,hp,hk⟩
 have hm:=st.many p hp
 have hl:=st.len
 have hle:=params_le ns p
 refine frame0P gTPl_ok 19 rfl fun Q hr=>?_
 unfold tplainS at hk
 conv=>whnf
 refine⟨ns,root,p,rfl,st,hp,?_⟩
 conv=>whnf
 refine⟨paramsS ns p,[1],_,[],rfl,rfl,by omega,fun i hi=>?_,?_⟩
 ·obtain rfl:i=0:=by simpa using hi
  rfl
 conv=>whnf
 refine two_intro (fun h=>?_) (fun h=>?_)
 ·rw [h] at hk
  conv=>whnf
  refine⟨⟨by omega,by omega,rfl⟩,?_⟩
  conv=>whnf
  exact hr _ _ rfl hk
 ·rw [h] at hk
  conv=>whnf
  exact hr _ _ rfl hk
def gEx2:AG:=gput 181 cKind g0
theorem gEx2_ok:GOk Tryz.prog gEx2:=gput_ok kind_ok g0_ok
def cTy:AC:=fun args K k=>∃ ns root i,args=[scV ns root,.p (.int .i64 ((i:Nat):Int))]∧Std ns root∧i<ns.length∧k (.ret (intV (tyS ns root i))) K
theorem ty_ok:COk 127 cTy:=by
 rintro args K k ⟨ns,root,i,rfl,st,hi,hk⟩
 have hl:=st.len
 refine frame0P gEx2_ok 19 rfl fun Q hr=>?_
 have e:nd ns i=ns.getD ((i:Int)).toNat default:=rfl
 conv=>whnf
 refine⟨⟨by omega,by omega,rfl⟩,?_⟩
 conv=>whnf
 repeat' (first|((first|refine two_eq ?_ ?_|refine two_ne ?_ ?_|refine two_not ?_ ?_|refine two_dec ?_ ?_|refine two_intro ?_ ?_)<;>intro h<;>conv=>whnf)|(refine⟨ns,root,i,_,rfl,st,hi,?_⟩;conv=>whnf)|fail)
 all_goals refine hr _ _ rfl (ret_eq hk (congrArg intV ?_))
 all_goals clear hr hk
 all_goals unfold tyS arith
 all_goals rw [e]
 all_goals simp_all
end Go.Proofs.YtcmepkfefoidcaaGreatDoor
namespace Go.Ru
def firstIx (p:Int→Bool) (i:Nat):List Int→Int
 | []=>-1
 | q::r=>match p q with
  | true=>(i:Int)
  | false=>firstIx p (i+1) r
theorem firstIx_any (p:Int→Bool) (i:Nat) (l:List Int):decide (firstIx p i l≥0)=l.any p:=by
 induction l generalizing i with
 | nil=>rfl
 | cons q r ih =>
  unfold firstIx
  rw [List.any_cons]
  cases h:p q with
  | true=>simp
  | false=>simp only [ih,Bool.false_or]
end Go.Ru
namespace Go.Proofs.YtcmepkfefoidcaaGreatDoor
open Go.AE Go.Ru
set_option maxRecDepth 100000
set_option maxHeartbeats 1000000
def gTy:AG:=gput 127 cTy g0
theorem gTy_ok:GOk Tryz.prog gTy:=gput_ok ty_ok g0_ok
def InR (ns:List Nd) (q:Int):Prop:=0≤q∧q<(ns.length:Int)
def allK (ns:List Nd) (root kind:Int):List ABlk:=[.box 131 [scV ns root],.box 3 [intV kind]]
def cAll1:AC:=fun args K k=>∃ ns root kind q X,args=[intV q,.ptr 0 0 1 0 0,.ptr 1 0 1 0 0]∧K=allK ns root kind++X∧Std ns root∧InR ns q∧k (.ret (.p (.bool (tyS ns root q.toNat != kind)))) (allK ns root kind++X)
theorem all1_ok:COk 183 cAll1:=by
 rintro args K k ⟨ns,root,kind,q,X,rfl,rfl,st,⟨h1,h2⟩,hk⟩
 obtain⟨i,rfl⟩:∃ i:Nat,q=(i:Int):=⟨q.toNat,by omega⟩
 refine frameG (K0:=allK ns root kind) gTy_ok 19 rfl ⟨rfl,rfl,trivial⟩ fun Q hr=>?_
 conv=>whnf
 refine⟨ns,root,i,rfl,st,by omega,?_⟩
 conv=>whnf
 repeat ((refine And.intro ?_ ?_);(focus ((conv=>whnf);done));conv=>whnf)
 exact hr _ _ _ _ rfl rfl ⟨rfl,rfl,trivial⟩ (AV.le_refl _) (lesK.refl _) hk
def gAl1:AG:=gput 183 cAll1 g0
theorem gAl1_ok:GOk Tryz.prog gAl1:=gput_ok all1_ok g0_ok
def cIdxA:AC:=fun args K k=>∃ ns root kind l X,args=[intsV l,.fn 183 [] [.ptr 0 0 1 0 0,.ptr 1 0 1 0 0]]∧K=allK ns root kind++X∧Std ns root∧List.length l<1000000∧(∀ q∈l,InR ns q) ∧
 k (.ret (intV (firstIx (fun q=>tyS ns root q.toNat != kind) 0 l))) (allK ns root kind++X)
theorem idxA_ok:COk 216 cIdxA:=by
 rintro args K k ⟨ns,root,kind,l,X,rfl,rfl,st,hl,hq,hk⟩
 refine frameG (K0:=allK ns root kind) gAl1_ok 19 rfl ⟨rfl,rfl,trivial⟩ fun Q hr=>?_
 conv=>whnf
 refine loop_up (ι:=Nat) [0,1,7] (fun i=>[(8,intV i)]) (fun _=>[]) (fun i=>i≤l.length∧firstIx (fun q=>tyS ns root q.toNat != kind) i (l.drop i)=firstIx (fun q=>tyS ns root q.toNat != kind) 0 l) (fun i=>l.length - i) 0 ⟨AV.le_refl _,trivial⟩ trivial ⟨Nat.zero_le _,rfl⟩ ?_
 rintro Y hle i ⟨hi,he⟩ ih
 conv=>whnf
 refine two_dec (fun h=>?_) (fun h=>?_)
 ·have h:i<l.length:=by have h:(i:Int)<(l.length:Int):=h;omega
  have hw1:=wzz (i:=i) (by omega)
  rw [List.drop_eq_getElem_cons h] at he
  have e1:l.getD i 0=l[i]:=by simp [h]
  have hm:=hq _ (List.getElem_mem h)
  rw [← e1] at he hm
  conv=>whnf
  refine⟨⟨by omega,by omega,rfl⟩,?_⟩
  conv=>whnf
  refine⟨ns,root,kind,l.getD i 0,[],rfl,rfl,st,hm,?_⟩
  conv=>whnf
  refine two_intro (fun h2=>?_) (fun h2=>?_)
  ·simp only [firstIx,h2] at he
   conv=>whnf
   exact hr _ _ _ _ rfl rfl ⟨rfl,rfl,trivial⟩ (AV.le_refl _) (lesK.refl _) (he▸hk)
  ·simp only [firstIx,h2] at he
   conv=>whnf
   refine hle _ _ (Le.env ?_ ?_) (ih (i+1) (by omega) ⟨by omega,he⟩)
   ·skip
    repeat' (first|exact trivial|((conv=>whnf);first|exact trivial|refine⟨AV.le_refl _,?_⟩|refine⟨ABlk.le_refl _,?_⟩|(refine⟨AV.le_of_eq ?_,?_⟩;focus ((first|exact congrArg intV hw1|fail);done))|(refine⟨ABlk.le_of_eq ?_,?_⟩;focus ((first|exact congrArg intV hw1|fail);done))|fail)|fail)
   ·skip
    repeat' (first|exact trivial|((conv=>whnf);first|exact trivial|refine⟨AV.le_refl _,?_⟩|refine⟨ABlk.le_refl _,?_⟩|fail)|fail)
 ·obtain rfl:i=l.length:=by have h:¬ (i:Int)<(l.length:Int):=h;omega
  rw [List.drop_length] at he
  rw [← he] at hk
  conv=>whnf
  exact hr _ _ _ _ rfl rfl ⟨rfl,rfl,trivial⟩ (AV.le_refl _) (lesK.refl _) hk
def gAl:AG:=gput 216 cIdxA g0
theorem gAl_ok:GOk Tryz.prog gAl:=gput_ok idxA_ok g0_ok
def cAllS:AC:=fun args K k=>∃ ns root kind l,args=[scV ns root,intsV l,intV kind]∧Std ns root∧List.length l<1000000∧(∀ q∈l,InR ns q)∧k (.ret (.p (.bool (allS ns root l kind)))) K
theorem allS_ok:COk 126 cAllS:=by
 rintro args K k ⟨ns,root,kind,l,rfl,st,hl,hq,hk⟩
 refine frame0P gAl_ok 19 rfl fun Q hr=>?_
 conv=>whnf
 refine⟨ns,root,kind,l,[],rfl,rfl,st,hl,hq,?_⟩
 conv=>whnf
 refine hr _ _ rfl (ret_eq hk (congrArg (fun b=>AV.p (.bool b)) ?_))
 show _=!decide (firstIx (fun q=>tyS ns root q.toNat != kind) 0 l≥0)
 rw [firstIx_any,List.not_any_eq_all_not]
 unfold allS
 congr 1
 funext q
 simp only [bne,Bool.not_not]
def gOp:AG:=gput 126 cAllS g0
theorem gOp_ok:GOk Tryz.prog gOp:=gput_ok allS_ok g0_ok
def cOperands:AC:=fun args K k=>∃ ns root n,args=[scV ns root,nodeV n]∧Std ns root∧n.kids.length<1000000∧(∀ q∈n.kids,InR ns q)∧k (.ret (.p (.bool (operandsS ns root n)))) K
theorem operands_ok:COk 130 cOperands:=by
 rintro args K k ⟨ns,root,n,rfl,st,hl,hq,hk⟩
 refine frame0P gOp_ok 19 rfl fun Q hr=>?_
 conv=>whnf
 repeat' (first|((first|refine two_eq ?_ ?_|refine two_ne ?_ ?_|refine two_not ?_ ?_|refine two_dec ?_ ?_|refine two_intro ?_ ?_)<;>intro h<;>conv=>whnf)|(refine⟨ns,root,_,n.kids,rfl,st,hl,hq,?_⟩;conv=>whnf)|fail)
 all_goals refine hr _ _ rfl (ret_eq hk (congrArg (fun b=>AV.p (.bool b)) ?_))
 all_goals clear hr hk
 all_goals unfold operandsS
 all_goals simp_all
def cTwice:AC:=fun args K k=>∃ ns root i,args=[scV ns root,.p (.int .i64 ((i:Nat):Int)),nodeV (nd ns i)]∧RightT ns root∧i<ns.length∧k (.ret (.p (.bool (twiceS ns root i (nd ns i))))) K
theorem twice_ok:COk 122 cTwice:=by
 rintro args K k ⟨ns,root,i,rfl,rt,hi,hk⟩
 have hl:=rt.len
 refine frame0P g0_ok 19 rfl fun Q hr=>?_
 unfold twiceS at hk
 have loc:(nd ns i).k=4∨(nd ns i).k=5→isProcB ns (own ns root i)=true:=fun h=>by
  obtain⟨p,_,_,_,_,h5⟩:=rt.decl hi h
  exact isProcB_own rt.toStd hi (by rw [h5];omega)
 conv=>whnf
 refine two_eq (fun h=>?_) (fun h=>?_)
 ·have h:(nd ns i).k=4:=h
  have loc:=loc (.inl h)
  rw [if_pos (.inl h)] at hk
  conv=>whnf
  refine⟨⟨by omega,by omega,rfl⟩,?_⟩
  conv=>whnf
  refine MGet.pv_some (locM_yes loc) ?_
  conv=>whnf
  cases hg:locS ns root (own ns root i) (nd ns i).tx with
  | some d =>
   rw [hg] at hk
   refine MGet.pv_some (strM_some hg) ?_
   conv=>whnf
   exact hr _ _ rfl hk
  | none =>
   rw [hg] at hk
   refine MGet.pv_none (strM_none hg) ?_
   conv=>whnf
   exact hr _ _ rfl hk
 have h:(nd ns i).k≠4:=h
 conv=>whnf
 refine two_eq (fun h5=>?_) (fun h5=>?_)
 ·have h5:(nd ns i).k=5:=h5
  have loc:=loc (.inr h5)
  rw [if_pos (.inr h5)] at hk
  conv=>whnf
  refine⟨⟨by omega,by omega,rfl⟩,?_⟩
  conv=>whnf
  refine MGet.pv_some (locM_yes loc) ?_
  conv=>whnf
  cases hg:locS ns root (own ns root i) (nd ns i).tx with
  | some d =>
   rw [hg] at hk
   refine MGet.pv_some (strM_some hg) ?_
   conv=>whnf
   exact hr _ _ rfl hk
  | none =>
   rw [hg] at hk
   refine MGet.pv_none (strM_none hg) ?_
   conv=>whnf
   exact hr _ _ rfl hk
 have h5:(nd ns i).k≠5:=h5
 rw [if_neg (by omega)] at hk
 conv=>whnf
 refine two_eq (fun h2=>?_) (fun h2=>?_)
 ·have h2:(nd ns i).k=2:=h2
  rw [if_pos h2] at hk
  conv=>whnf
  cases hg:globS ns (nd ns i).tx with
  | some d =>
   rw [hg] at hk
   refine MGet.pv_some (strM_some hg) ?_
   conv=>whnf
   exact hr _ _ rfl hk
  | none =>
   rw [hg] at hk
   refine MGet.pv_none (strM_none hg) ?_
   conv=>whnf
   exact hr _ _ rfl hk
 have h2:(nd ns i).k≠2:=h2
 rw [if_neg h2] at hk
 conv=>whnf
 cases hg:globS ns (nd ns i).tx with
 | some d =>
  rw [hg] at hk
  refine MGet.pv_some (strM_some hg) ?_
  conv=>whnf
  repeat' (first|((first|refine two_eq ?_ ?_|refine two_ne ?_ ?_|refine two_not ?_ ?_|refine two_dec ?_ ?_|refine two_intro ?_ ?_)<;>intro h<;>conv=>whnf)|((first|refine Chk.mk ?_ ?_|refine And.intro ?_ ?_);(focus (((repeat' (refine And.intro ?_ ?_))<;>(first|omega|rfl|(simp only [List.length_append,List.length_cons,List.length_nil];omega)|fail));done));conv=>whnf)|(refine Exists.intro _ (And.intro rfl ?_))|(refine Exists.intro _ (Exists.intro _ (And.intro rfl ?_)))|(refine Exists.intro _ (Exists.intro _ (Exists.intro _ (And.intro rfl ?_))))|fail)
  exact hr _ _ rfl hk
 | none =>
  rw [hg] at hk
  refine MGet.pv_none (strM_none hg) ?_
  conv=>whnf
  cases hp:tprocS ns (nd ns i).tx with
  | some d =>
   rw [hp] at hk
   refine MGet.pv_some (strM_some hp) ?_
   conv=>whnf
   exact hr _ _ rfl hk
  | none =>
   rw [hp] at hk
   refine MGet.pv_none (strM_none hp) ?_
   conv=>whnf
   exact hr _ _ rfl hk
def cCall1:AC:=fun args K k=>∃ ns root q w X,args=[intV q,intV w,.ptr 0 0 1 0 0]∧K=[.box 131 [scV ns root]]++X∧Std ns root∧InR ns q∧k (.ret (.p (.bool (tyS ns root q.toNat==w)))) ([.box 131 [scV ns root]]++X)
theorem call1_ok:COk 186 cCall1:=by
 rintro args K k ⟨ns,root,q,w,X,rfl,rfl,st,⟨h1,h2⟩,hk⟩
 obtain⟨i,rfl⟩:∃ i:Nat,q=(i:Int):=⟨q.toNat,by omega⟩
 refine frameG (K0:=[.box 131 [scV ns root]]) gTy_ok 19 rfl ⟨rfl,trivial⟩ fun Q hr=>?_
 conv=>whnf
 refine⟨ns,root,i,rfl,st,by omega,?_⟩
 conv=>whnf
 exact hr _ _ _ _ rfl rfl ⟨rfl,trivial⟩ (AV.le_refl _) (lesK.refl _) hk
def gC1:AG:=gput 186 cCall1 g0
theorem gC1_ok:GOk Tryz.prog gC1:=gput_ok call1_ok g0_ok
def nodeB (n:Nd):ABlk:=.box 82 [.p (.int .i64 n.k),.p (.int .i64 n.n),.p (.int .i64 n.at_),.p (.str n.tx),.p (.sl 1 n.kids.length (kidF n.kids))]
def cTEqF:AC:=fun args K k=>∃ (ns:List Nd) (root:Int) (l w:List Int) (X:List ABlk) (wv:AV),args=[intsV l,wv,.fn 186 [] [.ptr 0 0 1 0 0]]∧Std ns root∧l.length<1000000∧(∀ q∈l,InR ns q)∧w.length<1000000 ∧
 ((wv=intsV w∧K=[.box 131 [scV ns root]]++X) ∨
  ∃ n f,wv=.slr 2 0 0 w.length∧K=[.box 131 [scV ns root],nodeB n,.arr 3 1 0 w.length f]++X∧∀ i,i<w.length→f i=[intV (w.getD i 0)]) ∧
 k (.ret (.p (.bool (fitS ns root l w)))) K
theorem fitS_len {ns:List Nd} {root:Int}:∀ {l w:List Int},l.length≠w.length→fitS ns root l w=false:=by
 intro l
 induction l with
 | nil=>intro w h;cases w with
  | nil=>exact absurd rfl h
  | cons=>rfl
 | cons q l ih=>intro w h;cases w with
  | nil=>rfl
  | cons x w =>
   simp only [fitS]
   rw [ih (by simpa using h),Bool.and_false]
theorem teqF_ok:COk 185 cTEqF:=by
 rintro args K k ⟨ns,root,l,w,X,wv,rfl,st,hl,hq,hwl,hwv,hk⟩
 rcases hwv with ⟨rfl,rfl⟩|⟨n,f,rfl,rfl,hf⟩
 ·refine frameG (K0:=[.box 131 [scV ns root]]) gC1_ok 19 rfl ⟨rfl,trivial⟩ fun Q hr=>?_
  conv=>whnf
  refine two_ne (fun h=>?_) (fun h=>?_)
  ·have h:(l.length:Int)≠(w.length:Int):=h
   rw [fitS_len (by omega)] at hk
   conv=>whnf
   exact hr _ _ _ _ rfl rfl ⟨rfl,trivial⟩ (AV.le_refl _) (lesK.refl _) hk
  have h:l.length=w.length:=by have h:(l.length:Int)=(w.length:Int):=h;omega
  conv=>whnf
  refine loop_up (ι:=Nat) [1,2,15,16] (fun i=>[(17,intV i)]) (fun _=>[]) (fun i=>i≤l.length∧fitS ns root (l.drop i) (w.drop i)=fitS ns root l w) (fun i=>l.length - i) 0 ⟨AV.le_refl _,trivial⟩ trivial ⟨Nat.zero_le _,rfl⟩ ?_
  rintro Y hle i ⟨hi,he⟩ ih
  conv=>whnf
  refine two_dec (fun h2=>?_) (fun h2=>?_)
  ·have h2:i<l.length:=by have h2:(i:Int)<(l.length:Int):=h2;omega
   have hw1:=wzz (i:=i) (by omega)
   rw [List.drop_eq_getElem_cons h2,List.drop_eq_getElem_cons (by omega:i<w.length)] at he
   simp only [fitS] at he
   have e1:l.getD i 0=l[i]:=by simp [h2]
   have e2:w.getD i 0=w[i]'(by omega):=by simp [show i<w.length by omega]
   have hm:=hq _ (List.getElem_mem h2)
   rw [← e1] at he hm
   rw [← e2] at he
   conv=>whnf
   refine⟨⟨by omega,by omega,rfl⟩,?_⟩
   conv=>whnf
   refine⟨⟨by omega,by omega,rfl⟩,?_⟩;(conv=>whnf)
   refine⟨ns,root,l.getD i 0,w.getD i 0,[],rfl,rfl,st,hm,?_⟩
   conv=>whnf
   refine two_not (fun h3=>?_) (fun h3=>?_)
   ·rw [h3,Bool.false_and] at he
    conv=>whnf
    exact hr _ _ _ _ rfl rfl ⟨rfl,trivial⟩ (AV.le_refl _) (lesK.refl _) (he▸hk)
   ·rw [h3,Bool.true_and] at he
    conv=>whnf
    refine hle _ _ (Le.env ?_ ?_) (ih (i+1) (by omega) ⟨by omega,he⟩)
    ·skip
     repeat' (first|exact trivial|((conv=>whnf);first|exact trivial|refine⟨AV.le_refl _,?_⟩|refine⟨ABlk.le_refl _,?_⟩|(refine⟨AV.le_of_eq ?_,?_⟩;focus ((first|exact congrArg intV hw1|fail);done))|(refine⟨ABlk.le_of_eq ?_,?_⟩;focus ((first|exact congrArg intV hw1|fail);done))|fail)|fail)
    ·skip
     repeat' (first|exact trivial|((conv=>whnf);first|exact trivial|refine⟨AV.le_refl _,?_⟩|refine⟨ABlk.le_refl _,?_⟩|fail)|fail)
  ·obtain rfl:i=l.length:=by have h2:¬ (i:Int)<(l.length:Int):=h2;omega
   rw [List.drop_length,h,List.drop_length] at he
   rw [← he] at hk
   conv=>whnf
   exact hr _ _ _ _ rfl rfl ⟨rfl,trivial⟩ (AV.le_refl _) (lesK.refl _) hk
 ·have hcl:(ABlk.arr 3 1 0 w.length f).cl 3:=fun i hi=>by rw [hf i hi];rfl
  refine frameG (K0:=[.box 131 [scV ns root],nodeB n,.arr 3 1 0 w.length f]) gC1_ok 19 rfl ⟨rfl,rfl,hcl,trivial⟩ fun Q hr=>?_
  conv=>whnf
  refine two_ne (fun h=>?_) (fun h=>?_)
  ·have h:(l.length:Int)≠(w.length:Int):=h
   rw [fitS_len (by omega)] at hk
   conv=>whnf
   exact hr _ _ _ _ rfl rfl ⟨rfl,rfl,hcl,trivial⟩ (AV.le_refl _) (lesK.refl _) hk
  have h:l.length=w.length:=by have h:(l.length:Int)=(w.length:Int):=h;omega
  conv=>whnf
  refine loop_up (ι:=Nat) [1,2,15,16] (fun i=>[(17,intV i)]) (fun _=>[]) (fun i=>i≤l.length∧fitS ns root (l.drop i) (w.drop i)=fitS ns root l w) (fun i=>l.length - i) 0 ⟨AV.le_refl _,trivial⟩ trivial ⟨Nat.zero_le _,rfl⟩ ?_
  rintro Y hle i ⟨hi,he⟩ ih
  conv=>whnf
  refine two_dec (fun h2=>?_) (fun h2=>?_)
  ·have h2:i<l.length:=by have h2:(i:Int)<(l.length:Int):=h2;omega
   have hw1:=wzz (i:=i) (by omega)
   rw [List.drop_eq_getElem_cons h2,List.drop_eq_getElem_cons (by omega:i<w.length)] at he
   simp only [fitS] at he
   have e1:l.getD i 0=l[i]:=by simp [h2]
   have e2:w.getD i 0=w[i]'(by omega):=by simp [show i<w.length by omega]
   have hm:=hq _ (List.getElem_mem h2)
   rw [← e1] at he hm
   rw [← e2] at he
   conv=>whnf
   refine⟨⟨by omega,by omega,rfl⟩,?_⟩
   conv=>whnf
   refine⟨⟨rfl,Nat.zero_add _,by omega,by omega,rfl⟩,?_⟩;(conv=>whnf);refine⟨⟨rfl,rfl⟩,?_⟩;rw [show f (0+(i:Int).toNat)=[intV (w.getD i 0)] by rw [Nat.zero_add];exact hf i (by omega)];(conv=>whnf)
   refine⟨ns,root,l.getD i 0,w.getD i 0,_,rfl,rfl,st,hm,?_⟩
   conv=>whnf
   refine two_not (fun h3=>?_) (fun h3=>?_)
   ·rw [h3,Bool.false_and] at he
    conv=>whnf
    exact hr _ _ _ _ rfl rfl ⟨rfl,rfl,hcl,trivial⟩ (AV.le_refl _) (lesK.refl _) (he▸hk)
   ·rw [h3,Bool.true_and] at he
    conv=>whnf
    refine hle _ _ (Le.env ?_ ?_) (ih (i+1) (by omega) ⟨by omega,he⟩)
    ·skip
     repeat' (first|exact trivial|((conv=>whnf);first|exact trivial|refine⟨AV.le_refl _,?_⟩|refine⟨ABlk.le_refl _,?_⟩|(refine⟨AV.le_of_eq ?_,?_⟩;focus ((first|exact congrArg intV hw1|fail);done))|(refine⟨ABlk.le_of_eq ?_,?_⟩;focus ((first|exact congrArg intV hw1|fail);done))|fail)|fail)
    ·skip
     repeat' (first|exact trivial|((conv=>whnf);first|exact trivial|refine⟨AV.le_refl _,?_⟩|refine⟨ABlk.le_refl _,?_⟩|fail)|fail)
  ·obtain rfl:i=l.length:=by have h2:¬ (i:Int)<(l.length:Int):=h2;omega
   rw [List.drop_length,h,List.drop_length] at he
   rw [← he] at hk
   conv=>whnf
   exact hr _ _ _ _ rfl rfl ⟨rfl,rfl,hcl,trivial⟩ (AV.le_refl _) (lesK.refl _) hk
def gCa:AG:=gput 180 cMeans (gput 80 cTProc (gput 181 cKind (gput 81 cParams (gput 185 cTEqF g0))))
theorem gCa_ok:GOk Tryz.prog gCa:=gput_ok means_ok (gput_ok proc_ok' (gput_ok kind_ok (gput_ok params_ok (gput_ok teqF_ok g0_ok))))
def cCallS:AC:=fun args K k=>∃ ns root i n q0 r,args=[scV ns root,.p (.int .i64 ((i:Nat):Int)),nodeV n]∧Std ns root∧i<ns.length∧n.kids=q0::r∧(∀ q∈n.kids,InR ns q)∧n.kids.length<1000000∧k (.ret (intV (tcallS ns root i n))) K
theorem callS_ok:COk 131 cCallS:=by
 rintro args K k ⟨ns,root,i,⟨nk,nn,na,tx,kids⟩,q0,r,rfl,st,hi,hkd,hq,hl,hk⟩
 simp only at hkd hq hl
 subst hkd
 have hq0:=hq q0 (List.mem_cons_self ..)
 obtain⟨j0,rfl⟩:∃ j:Nat,q0=(j:Int):=⟨q0.toNat,by have:=hq0.1;omega⟩
 have hj0:j0<ns.length:=by have:=hq0.2;omega
 refine frame0P gCa_ok 19 rfl fun Q hr=>?_
 unfold tcallS at hk
 simp only [List.getD_cons_zero,Int.toNat_natCast,List.tail_cons] at hk
 conv=>whnf
 refine⟨⟨by omega,by show (0:Int)<((r.length+1:Nat):Int);omega,rfl⟩,?_⟩
 conv=>whnf
 refine⟨⟨by show (0:Int)≤(j0:Int);omega,by show (j0:Int)<_;omega,rfl⟩,?_⟩
 conv=>whnf
 refine⟨ns,root,i,(nd ns j0).tx,rfl,st,hi,?_⟩
 conv=>whnf
 repeat ((refine And.intro ?_ ?_);(focus ((conv=>whnf);done));conv=>whnf)
 refine⟨ns,root,(nd ns j0).tx,rfl,?_⟩
 conv=>whnf
 repeat ((refine And.intro ?_ ?_);(focus ((conv=>whnf);done));conv=>whnf)
 have hd:=means_range ns root i (nd ns j0).tx
 have hp:=procI_range ns (nd ns j0).tx
 generalize meansS ns root i (nd ns j0).tx=d at hk hd ⊢
 generalize procI ns (nd ns j0).tx=p at hk hp ⊢
 have fin:∀ (b:Bool),(if (b:Bool) then (0:Int) else 5)=toldS b:=fun b=>rfl
 refine two_eq (fun h1=>?_) (fun h1=>?_)
 ·have h1:d=-1:=h1
  subst h1
  conv=>whnf
  refine two_eq (fun h2=>?_) (fun h2=>?_)
  ·have h2:p=-1:=h2
   rw [if_pos (.inl ⟨rfl,h2⟩)] at hk
   conv=>whnf
   exact hr _ _ rfl hk
  have h2:p≠-1:=h2
  obtain⟨pp,rfl⟩:∃ m:Nat,p=(m:Int):=⟨p.toNat,by omega⟩
  have hpp:pp<ns.length:=by omega
  have hpl:=params_le ns pp
  have hpm:=st.many pp hpp
  have hln:=st.len
  simp only [Int.toNat_natCast] at hk
  conv=>whnf
  refine two_not (fun h3=>?_) (fun h3=>?_)
  ·have h3:(tx==[])=false:=h3
   conv=>whnf
   refine⟨ns,root,i,tx,rfl,st,hi,?_⟩
   conv=>whnf
   refine two_eq (fun h4=>?_) (fun h4=>?_)
   ·have h4:meansS ns root i tx=-1:=h4
    rw [if_pos (.inr ⟨by simpa using h3,h4⟩)] at hk
    conv=>whnf
    exact hr _ _ rfl hk
   have h4:meansS ns root i tx≠-1:=h4
   rw [if_neg (by rintro (⟨_,h⟩|⟨h,h'⟩);exact h2 h;exact h4 h'),if_pos trivial] at hk
   conv=>whnf
   refine⟨⟨by omega,by omega,rfl⟩,?_⟩
   conv=>whnf
   refine⟨ns,root,pp,rfl,st,hpp,?_⟩
   conv=>whnf
   repeat ((refine And.intro ?_ ?_);(focus ((conv=>whnf);first|done|exact⟨⟨by omega,by omega,rfl⟩,by conv=>whnf⟩));conv=>whnf)
   conv=>whnf
   refine⟨⟨by omega,by show (1:Int)≤((r.length+1:Nat):Int);omega,Int.le_refl _,rfl⟩,?_⟩
   conv=>whnf
   refine⟨ns,root,r,paramsS ns pp,_,_,rfl,st,by simp only [List.length_cons] at hl;omega,fun q h=>hq q (List.mem_cons_of_mem _ h),by omega,.inl ⟨rfl,rfl⟩,?_⟩
   conv=>whnf
   repeat' (first|((first|refine two_eq ?_ ?_|refine two_ne ?_ ?_|refine two_not ?_ ?_|refine two_dec ?_ ?_|refine two_intro ?_ ?_)<;>intro h<;>conv=>whnf)|(refine⟨ns,root,i,tx,rfl,st,hi,?_⟩;conv=>whnf)|fail)
   all_goals refine hr _ _ rfl (ret_eq hk (congrArg intV ?_))
   all_goals clear hr hk
   all_goals (try simp only [show ∀ j,ns.getD j default=nd ns j from fun _=>rfl,Int.toNat_natCast] at *)
   all_goals simp_all [toldS]
  ·have h3:(tx==[])=true:=h3
   rw [if_neg (by rintro (⟨_,h⟩|⟨h,h'⟩);exact h2 h;exact absurd (by simpa using h3) h),if_pos trivial] at hk
   conv=>whnf
   refine⟨⟨by omega,by omega,rfl⟩,?_⟩
   conv=>whnf
   refine⟨ns,root,pp,rfl,st,hpp,?_⟩
   conv=>whnf
   repeat ((refine And.intro ?_ ?_);(focus ((conv=>whnf);first|done|exact⟨⟨by omega,by omega,rfl⟩,by conv=>whnf⟩));conv=>whnf)
   conv=>whnf
   refine⟨⟨by omega,by show (1:Int)≤((r.length+1:Nat):Int);omega,Int.le_refl _,rfl⟩,?_⟩
   conv=>whnf
   refine⟨ns,root,r,paramsS ns pp,_,_,rfl,st,by simp only [List.length_cons] at hl;omega,fun q h=>hq q (List.mem_cons_of_mem _ h),by omega,.inl ⟨rfl,rfl⟩,?_⟩
   conv=>whnf
   repeat' (first|((first|refine two_eq ?_ ?_|refine two_ne ?_ ?_|refine two_not ?_ ?_|refine two_dec ?_ ?_|refine two_intro ?_ ?_)<;>intro h<;>conv=>whnf)|(refine⟨ns,root,i,tx,rfl,st,hi,?_⟩;conv=>whnf)|fail)
   all_goals refine hr _ _ rfl (ret_eq hk (congrArg intV ?_))
   all_goals clear hr hk
   all_goals (try simp only [show ∀ j,ns.getD j default=nd ns j from fun _=>rfl,Int.toNat_natCast] at *)
   all_goals simp_all [toldS]
 ·have h1:d≠-1:=h1
  obtain⟨dd,rfl⟩:∃ m:Nat,d=(m:Int):=⟨d.toNat,by omega⟩
  have hdd:dd<ns.length:=by omega
  simp only [Int.toNat_natCast] at hk
  conv=>whnf
  refine two_not (fun h3=>?_) (fun h3=>?_)
  ·have h3:(tx==[])=false:=h3
   conv=>whnf
   refine⟨ns,root,i,tx,rfl,st,hi,?_⟩
   conv=>whnf
   refine two_eq (fun h4=>?_) (fun h4=>?_)
   ·have h4:meansS ns root i tx=-1:=h4
    rw [if_pos (.inr ⟨by simpa using h3,h4⟩)] at hk
    conv=>whnf
    exact hr _ _ rfl hk
   have h4:meansS ns root i tx≠-1:=h4
   rw [if_neg (by rintro (⟨h,_⟩|⟨h,h'⟩);exact h1 h;exact h4 h'),if_neg h1] at hk
   conv=>whnf
   refine⟨⟨by omega,by omega,rfl⟩,?_⟩
   conv=>whnf
   refine two_ne (fun h5=>?_) (fun h5=>?_)
   ·have h5:(nd ns dd).n≠4:=h5
    rw [if_pos h5] at hk
    conv=>whnf
    exact hr _ _ rfl hk
   have h5:(nd ns dd).n=4:=h5
   rw [if_neg (not_not_intro h5)] at hk
   conv=>whnf
   conv=>whnf
   refine⟨⟨by omega,by show (1:Int)≤((r.length+1:Nat):Int);omega,Int.le_refl _,rfl⟩,?_⟩
   conv=>whnf
   refine⟨ns,root,r,[1],_,_,rfl,st,by simp only [List.length_cons] at hl;omega,fun q h=>hq q (List.mem_cons_of_mem _ h),by simp,.inr ⟨⟨nk,nn,na,tx,(j0:Int)::r⟩,_,rfl,rfl,fun i hi=>by obtain rfl:i=0:=(by simpa using hi);rfl⟩,?_⟩
   conv=>whnf
   repeat' (first|((first|refine two_eq ?_ ?_|refine two_ne ?_ ?_|refine two_not ?_ ?_|refine two_dec ?_ ?_|refine two_intro ?_ ?_)<;>intro h<;>conv=>whnf)|(refine⟨ns,root,i,tx,rfl,st,hi,?_⟩;conv=>whnf)|fail)
   all_goals refine hr _ _ rfl (ret_eq hk (congrArg intV ?_))
   all_goals clear hr hk
   all_goals (try simp only [show ∀ j,ns.getD j default=nd ns j from fun _=>rfl,Int.toNat_natCast] at *)
   all_goals simp_all [toldS]
  ·have h3:(tx==[])=true:=h3
   rw [if_neg (by rintro (⟨h,_⟩|⟨h,h'⟩);exact h1 h;exact absurd (by simpa using h3) h),if_neg h1] at hk
   conv=>whnf
   refine⟨⟨by omega,by omega,rfl⟩,?_⟩
   conv=>whnf
   refine two_ne (fun h5=>?_) (fun h5=>?_)
   ·have h5:(nd ns dd).n≠4:=h5
    rw [if_pos h5] at hk
    conv=>whnf
    exact hr _ _ rfl hk
   have h5:(nd ns dd).n=4:=h5
   rw [if_neg (not_not_intro h5)] at hk
   conv=>whnf
   conv=>whnf
   refine⟨⟨by omega,by show (1:Int)≤((r.length+1:Nat):Int);omega,Int.le_refl _,rfl⟩,?_⟩
   conv=>whnf
   refine⟨ns,root,r,[1],_,_,rfl,st,by simp only [List.length_cons] at hl;omega,fun q h=>hq q (List.mem_cons_of_mem _ h),by simp,.inr ⟨⟨nk,nn,na,tx,(j0:Int)::r⟩,_,rfl,rfl,fun i hi=>by obtain rfl:i=0:=(by simpa using hi);rfl⟩,?_⟩
   conv=>whnf
   repeat' (first|((first|refine two_eq ?_ ?_|refine two_ne ?_ ?_|refine two_not ?_ ?_|refine two_dec ?_ ?_|refine two_intro ?_ ?_)<;>intro h<;>conv=>whnf)|(refine⟨ns,root,i,tx,rfl,st,hi,?_⟩;conv=>whnf)|fail)
   all_goals refine hr _ _ rfl (ret_eq hk (congrArg intV ?_))
   all_goals clear hr hk
   all_goals (try simp only [show ∀ j,ns.getD j default=nd ns j from fun _=>rfl,Int.toNat_natCast] at *)
   all_goals simp_all [toldS]
set_option maxHeartbeats 4000000
def cAllF:AC:=fun args K k=>∃ ns root kind l n f,args=[scV ns root,.p (.sl 1 n f),intV kind]∧n=List.length l∧(∀ i,i<n→f i=kidF l i)∧Std ns root∧List.length l<1000000∧(∀ q∈l,InR ns q)∧k (.ret (.p (.bool (allS ns root l kind)))) K
theorem allF_ok:COk 126 cAllF:=by
 rintro args K k ⟨ns,root,kind,l,n,f,rfl,rfl,hf,st,hl,hq,hk⟩
 exact ACalls.pre (allS_ok _ K k ⟨ns,root,kind,l,rfl,st,hl,hq,hk⟩) (Wk.le ⟨AV.le_refl _,AV.sl_le rfl fun i hi=>(hf i hi).symm,AV.le_refl _,trivial⟩ (lesK.refl K))
def gCh:AG:=gput 180 cMeans (gput 80 cTProc (gput 181 cKind (gput 129 cTPlain (gput 127 cTy (gput 126 cAllF (gput 130 cOperands (gput 122 cTwice (gput 131 cCallS g0))))))))
theorem gCh_ok:GOk Tryz.prog gCh:=gput_ok means_ok (gput_ok proc_ok' (gput_ok kind_ok (gput_ok tplain_ok (gput_ok ty_ok (gput_ok allF_ok (gput_ok operands_ok (gput_ok twice_ok (gput_ok callS_ok g0_ok))))))))
def cCheckN:AC:=fun args K k=>∃ ns root i,args=[scV ns root,.p (.int .i64 ((i:Nat):Int))]∧RightT ns root∧i<ns.length∧k (.ret (intV (checkS ns root i))) K
theorem kids_cons {ns:List Nd} {root:Int} (rt:RightT ns root) {i:Nat} (hi:i<ns.length) (h:(nd ns i).k=7∨(nd ns i).k=10∨(nd ns i).k=11∨(nd ns i).k=12∨(nd ns i).k=13):∃ q r,(nd ns i).kids=q::r:=by
 have hs:=rt.shape i hi
 have hl:=kinds_len ns (nd ns i)
 cases hk:(nd ns i).kids with
 | cons q r=>exact⟨q,r,rfl⟩
 | nil =>
  rw [hk] at hl
  have hn:kindsS ns (nd ns i)=[]:=List.length_eq_zero_iff.1 hl
  rw [hn] at hs
  rcases h with h|h|h|h|h<;>rw [h] at hs<;>simp [ShapeOf] at hs
theorem checkN_ok:COk 79 cCheckN:=by
 rintro args K k ⟨ns,root,i,rfl,rt,hi,hk⟩
 have st:=rt.toStd
 have hlen:=st.len
 have hmany:=st.many i hi
 have hlk:(nd ns i).kids.length<1000000:=by omega
 have hqk:∀ q∈(nd ns i).kids,InR ns q:=fun q hq=>by have:=st.kid i hi q hq;exact⟨this.1,by have:=this.2.1;omega⟩
 refine frame0P gCh_ok 19 rfl fun Q hr=>?_
 have hnd:∀ j,ns.getD j default=nd ns j:=fun _=>rfl
 conv=>whnf
 refine⟨⟨by omega,by omega,rfl⟩,?_⟩
 have hc:(ns.getD ((i:Int)).toNat default).k=7∨(ns.getD ((i:Int)).toNat default).k=10∨(ns.getD ((i:Int)).toNat default).k=11∨(ns.getD ((i:Int)).toNat default).k=12∨(ns.getD ((i:Int)).toNat default).k=13→∃ q r,(nd ns i).kids=q::r:=kids_cons rt hi
 have hcc:(ns.getD ((i:Int)).toNat default).k=7∨(ns.getD ((i:Int)).toNat default).k=10∨(ns.getD ((i:Int)).toNat default).k=11∨(ns.getD ((i:Int)).toNat default).k=12∨(ns.getD ((i:Int)).toNat default).k=13→(nd ns i).kids=(nd ns i).kids.getD 0 0::(nd ns i).kids.tail:=fun h=>by
  obtain⟨q,r,e⟩:=hc h
  rw [e];rfl
 have hpos:(ns.getD ((i:Int)).toNat default).k=7∨(ns.getD ((i:Int)).toNat default).k=10∨(ns.getD ((i:Int)).toNat default).k=11∨(ns.getD ((i:Int)).toNat default).k=12∨(ns.getD ((i:Int)).toNat default).k=13→1≤(ns.getD ((i:Int)).toNat default).kids.length:=fun h=>by
  obtain⟨q,r,e⟩:=hc h
  show 1≤(nd ns i).kids.length
  rw [e];simp
 have hq0:1≤(ns.getD ((i:Int)).toNat default).kids.length→0≤(ns.getD ((i:Int)).toNat default).kids.getD (Int.toNat 0) 0∧(ns.getD ((i:Int)).toNat default).kids.getD (Int.toNat 0) 0<ns.length:=fun h=>by
  have h:0<(nd ns i).kids.length:=h
  show 0≤(nd ns i).kids.getD 0 0∧(nd ns i).kids.getD 0 0<ns.length
  have:=hqk ((nd ns i).kids.getD 0 0) (by simp [h])
  exact this
 have hown:(ns.getD ((i:Int)).toNat default).k=14→0≤own ns root ((i:Int)).toNat∧own ns root ((i:Int)).toNat<ns.length:=fun h=>by
  have h:(nd ns i).k=14:=h
  exact rt.owned _ i (Nat.le_refl _) hi (by omega) (by omega)
 have htl:∀ q∈(nd ns i).kids.tail,InR ns q:=fun q hq=>hqk q (List.mem_of_mem_tail hq)
 have htk:∀ q∈(nd ns i).kids.take 1,InR ns q:=fun q hq=>hqk q (List.mem_of_mem_take hq)
 have eTl:(ns.getD ((i:Int)).toNat default).kids.length - 1=(nd ns i).kids.tail.length:=by rw [List.length_tail];rfl
 have fTl:∀ j,kidF (nd ns i).kids (j+1)=kidF (nd ns i).kids.tail j:=fun j=>by simp [kidF,List.getD_eq_getElem?_getD]
 have eTk:1≤(ns.getD ((i:Int)).toNat default).kids.length→1=((nd ns i).kids.take 1).length:=fun h=>by
  have h:1≤(nd ns i).kids.length:=h
  rw [List.length_take];omega
 have fTk:∀ j,j<1→kidF (nd ns i).kids (j+0)=kidF ((nd ns i).kids.take 1) j:=fun j hj=>by
  obtain rfl:j=0:=by omega
  simp [kidF,List.getD_eq_getElem?_getD]
 conv=>whnf
 repeat' (first|((first|refine two_eq ?_ ?_|refine two_ne ?_ ?_|refine two_not ?_ ?_|refine two_dec ?_ ?_|refine two_intro ?_ ?_)<;>intro h<;>conv=>whnf)|((first|refine Chk.mk ?_ ?_|refine And.intro ?_ ?_);(focus (((repeat' (refine And.intro ?_ ?_))<;>(first|omega|rfl|(simp only [List.length_append,List.length_cons,List.length_nil];omega)|fail));done));conv=>whnf)|(refine And.intro ?_ ?_;(focus ((conv=>whnf);first|done|exact⟨⟨by omega,by omega,rfl⟩,by conv=>whnf⟩|fail));conv=>whnf)|(refine⟨ns,root,i,rfl,rt,hi,?_⟩;conv=>whnf)|(refine⟨ns,root,i,_,rfl,st,hi,?_⟩;conv=>whnf)|(refine⟨ns,root,_,(nd ns i).kids,_,_,rfl,rfl,fun _ _=>rfl,st,hlk,hqk,?_⟩;conv=>whnf)|(refine⟨ns,root,nd ns i,rfl,st,hlk,hqk,?_⟩;conv=>whnf)|(refine⟨ns,root,_,rfl,?_⟩;conv=>whnf)|fail)
 all_goals (try (
  refine hr _ _ rfl (ret_eq hk (congrArg intV ?_))
  clear hr hk hpos hq0 hc hcc hown
  (try simp only [hnd,Int.toNat_natCast] at *)
  clear hnd eTl fTl eTk fTk htl htk hqk hlk hmany hlen st rt
  (first|rw [ck2 (by assumption)]|rw [ck3 (by assumption)]|rw [ck4 (by assumption)]|rw [ck5 (by assumption)]|rw [ck22 (by assumption)]|rw [ck23 (by assumption)]|rw [ck8 (by assumption)]|rw [ck17 (by assumption)]|rw [ck24 (by assumption)]|rw [ck9 (by assumption)]|rw [ck16 (by assumption)]|rw [ck7 (by assumption)]|rw [ck25 (by assumption)]|rw [ck26 (by assumption)]|rw [ck27 (by assumption)]|rw [ck10 (by assumption)]|rw [ck15 (by assumption)]|rw [ck11 (by assumption)]|rw [ck12 (by assumption)]|rw [ck13 (by assumption)]|rw [ck14 (by assumption)]|rw [ckD (by assumption) (by assumption) (by assumption) (by assumption) (by assumption) (by assumption) (by assumption) (by assumption) (by assumption) (by assumption) (by assumption) (by assumption) (by assumption) (by assumption) (by assumption) (by assumption) (by assumption) (by assumption) (by assumption) (by assumption) (by assumption)]|fail)<;>(first|rfl|(simp_all [toldS,tnamedS];done))))
 ·have hp1:=hpos (.inl (by assumption))
  have hq:=hq0 hp1
  have e:((((nd ns i).kids.getD 0 0).toNat:Nat):Int)=(nd ns i).kids.getD 0 0:=Int.toNat_of_nonneg hq.1
  refine⟨ns,root,((nd ns i).kids.getD 0 0).toNat,by rw [e];rfl,st,by have h2:(nd ns i).kids.getD 0 0<ns.length:=hq.2;omega,?_⟩
  (conv=>whnf)
  clear hpos hq0 hc hcc hown
  repeat' (first|((first|refine two_eq ?_ ?_|refine two_ne ?_ ?_|refine two_not ?_ ?_|refine two_dec ?_ ?_|refine two_intro ?_ ?_)<;>intro h<;>conv=>whnf)|((first|refine Chk.mk ?_ ?_|refine And.intro ?_ ?_);(focus (((repeat' (refine And.intro ?_ ?_))<;>(first|omega|rfl|(simp only [List.length_append,List.length_cons,List.length_nil];omega)|fail));done));conv=>whnf)|(refine And.intro ?_ ?_;(focus ((conv=>whnf);first|done|exact⟨⟨by omega,by omega,rfl⟩,by conv=>whnf⟩|fail));conv=>whnf)|(refine⟨ns,root,i,rfl,rt,hi,?_⟩;conv=>whnf)|(refine⟨ns,root,i,_,rfl,st,hi,?_⟩;conv=>whnf)|(refine⟨ns,root,_,(nd ns i).kids,_,_,rfl,rfl,fun _ _=>rfl,st,hlk,hqk,?_⟩;conv=>whnf)|(refine⟨ns,root,nd ns i,rfl,st,hlk,hqk,?_⟩;conv=>whnf)|(refine⟨ns,root,_,rfl,?_⟩;conv=>whnf)|fail)
  all_goals refine hr _ _ rfl (ret_eq hk (congrArg intV ?_))
  all_goals clear hr hk
  all_goals (try simp only [hnd,Int.toNat_natCast] at *)
  all_goals clear hnd eTl fTl eTk fTk htl htk hqk hlk hmany hlen st rt
  all_goals (first|rw [ck2 (by assumption)]|rw [ck3 (by assumption)]|rw [ck4 (by assumption)]|rw [ck5 (by assumption)]|rw [ck22 (by assumption)]|rw [ck23 (by assumption)]|rw [ck8 (by assumption)]|rw [ck17 (by assumption)]|rw [ck24 (by assumption)]|rw [ck9 (by assumption)]|rw [ck16 (by assumption)]|rw [ck7 (by assumption)]|rw [ck25 (by assumption)]|rw [ck26 (by assumption)]|rw [ck27 (by assumption)]|rw [ck10 (by assumption)]|rw [ck15 (by assumption)]|rw [ck11 (by assumption)]|rw [ck12 (by assumption)]|rw [ck13 (by assumption)]|rw [ck14 (by assumption)]|rw [ckD (by assumption) (by assumption) (by assumption) (by assumption) (by assumption) (by assumption) (by assumption) (by assumption) (by assumption) (by assumption) (by assumption) (by assumption) (by assumption) (by assumption) (by assumption) (by assumption) (by assumption) (by assumption) (by assumption) (by assumption) (by assumption)]|fail)
  all_goals (first|rfl|(simp_all [toldS,tnamedS];done))
 ·have e1:=((procI_range ns (ns.getD ((i:Int)).toNat default).tx).resolve_left (by assumption)).1
  have e2:=((procI_range ns (ns.getD ((i:Int)).toNat default).tx).resolve_left (by assumption)).2.1
  have e1':(((procI ns (nd ns i).tx).toNat:Nat):Int)=procI ns (nd ns i).tx:=Int.toNat_of_nonneg e1
  refine⟨ns,root,(procI ns (nd ns i).tx).toNat,by rw [e1'];rfl,st,(Int.toNat_lt e1).2 e2,?_⟩
  (conv=>whnf)
  clear hpos hq0 hc hcc hown
  repeat' (first|((first|refine two_eq ?_ ?_|refine two_ne ?_ ?_|refine two_not ?_ ?_|refine two_dec ?_ ?_|refine two_intro ?_ ?_)<;>intro h<;>conv=>whnf)|((first|refine Chk.mk ?_ ?_|refine And.intro ?_ ?_);(focus (((repeat' (refine And.intro ?_ ?_))<;>(first|omega|rfl|(simp only [List.length_append,List.length_cons,List.length_nil];omega)|fail));done));conv=>whnf)|(refine And.intro ?_ ?_;(focus ((conv=>whnf);first|done|exact⟨⟨by omega,by omega,rfl⟩,by conv=>whnf⟩|fail));conv=>whnf)|(refine⟨ns,root,i,rfl,rt,hi,?_⟩;conv=>whnf)|(refine⟨ns,root,i,_,rfl,st,hi,?_⟩;conv=>whnf)|(refine⟨ns,root,_,(nd ns i).kids,_,_,rfl,rfl,fun _ _=>rfl,st,hlk,hqk,?_⟩;conv=>whnf)|(refine⟨ns,root,nd ns i,rfl,st,hlk,hqk,?_⟩;conv=>whnf)|(refine⟨ns,root,_,rfl,?_⟩;conv=>whnf)|fail)
  all_goals refine hr _ _ rfl (ret_eq hk (congrArg intV ?_))
  all_goals clear hr hk
  all_goals (try simp only [hnd,Int.toNat_natCast] at *)
  all_goals clear hnd eTl fTl eTk fTk htl htk hqk hlk hmany hlen st rt
  all_goals (first|rw [ck2 (by assumption)]|rw [ck3 (by assumption)]|rw [ck4 (by assumption)]|rw [ck5 (by assumption)]|rw [ck22 (by assumption)]|rw [ck23 (by assumption)]|rw [ck8 (by assumption)]|rw [ck17 (by assumption)]|rw [ck24 (by assumption)]|rw [ck9 (by assumption)]|rw [ck16 (by assumption)]|rw [ck7 (by assumption)]|rw [ck25 (by assumption)]|rw [ck26 (by assumption)]|rw [ck27 (by assumption)]|rw [ck10 (by assumption)]|rw [ck15 (by assumption)]|rw [ck11 (by assumption)]|rw [ck12 (by assumption)]|rw [ck13 (by assumption)]|rw [ck14 (by assumption)]|rw [ckD (by assumption) (by assumption) (by assumption) (by assumption) (by assumption) (by assumption) (by assumption) (by assumption) (by assumption) (by assumption) (by assumption) (by assumption) (by assumption) (by assumption) (by assumption) (by assumption) (by assumption) (by assumption) (by assumption) (by assumption) (by assumption)]|fail)
  all_goals (first|rfl|(simp_all [toldS,tnamedS];done))
 ·have hp1:=hpos (.inr (.inl (by assumption)))
  refine⟨⟨by decide,by show (1:Int)≤(((ns.getD ((i:Int)).toNat default).kids.length:Nat):Int);exact Int.ofNat_le.2 hp1,Int.le_refl _,rfl⟩,?_⟩
  (conv=>whnf)
  refine⟨ns,root,_,(nd ns i).kids.tail,_,_,rfl,eTl,fun j _=>fTl j,st,by rw [List.length_tail];exact Nat.lt_of_le_of_lt (Nat.sub_le _ _) hlk,htl,?_⟩
  (conv=>whnf)
  clear hpos hq0 hc hcc hown
  repeat' (first|((first|refine two_eq ?_ ?_|refine two_ne ?_ ?_|refine two_not ?_ ?_|refine two_dec ?_ ?_|refine two_intro ?_ ?_)<;>intro h<;>conv=>whnf)|((first|refine Chk.mk ?_ ?_|refine And.intro ?_ ?_);(focus (((repeat' (refine And.intro ?_ ?_))<;>(first|omega|rfl|(simp only [List.length_append,List.length_cons,List.length_nil];omega)|fail));done));conv=>whnf)|(refine And.intro ?_ ?_;(focus ((conv=>whnf);first|done|exact⟨⟨by omega,by omega,rfl⟩,by conv=>whnf⟩|fail));conv=>whnf)|(refine⟨ns,root,i,rfl,rt,hi,?_⟩;conv=>whnf)|(refine⟨ns,root,i,_,rfl,st,hi,?_⟩;conv=>whnf)|(refine⟨ns,root,_,(nd ns i).kids,_,_,rfl,rfl,fun _ _=>rfl,st,hlk,hqk,?_⟩;conv=>whnf)|(refine⟨ns,root,nd ns i,rfl,st,hlk,hqk,?_⟩;conv=>whnf)|(refine⟨ns,root,_,rfl,?_⟩;conv=>whnf)|fail)
  all_goals refine hr _ _ rfl (ret_eq hk (congrArg intV ?_))
  all_goals clear hr hk
  all_goals (try simp only [hnd,Int.toNat_natCast] at *)
  all_goals clear hnd eTl fTl eTk fTk htl htk hqk hlk hmany hlen st rt
  all_goals (first|rw [ck2 (by assumption)]|rw [ck3 (by assumption)]|rw [ck4 (by assumption)]|rw [ck5 (by assumption)]|rw [ck22 (by assumption)]|rw [ck23 (by assumption)]|rw [ck8 (by assumption)]|rw [ck17 (by assumption)]|rw [ck24 (by assumption)]|rw [ck9 (by assumption)]|rw [ck16 (by assumption)]|rw [ck7 (by assumption)]|rw [ck25 (by assumption)]|rw [ck26 (by assumption)]|rw [ck27 (by assumption)]|rw [ck10 (by assumption)]|rw [ck15 (by assumption)]|rw [ck11 (by assumption)]|rw [ck12 (by assumption)]|rw [ck13 (by assumption)]|rw [ck14 (by assumption)]|rw [ckD (by assumption) (by assumption) (by assumption) (by assumption) (by assumption) (by assumption) (by assumption) (by assumption) (by assumption) (by assumption) (by assumption) (by assumption) (by assumption) (by assumption) (by assumption) (by assumption) (by assumption) (by assumption) (by assumption) (by assumption) (by assumption)]|fail)
  all_goals (first|rfl|(simp_all [toldS,tnamedS];done))
 ·have hp1:=hpos (.inr (.inr (.inl (by assumption))))
  refine⟨⟨by decide,by decide,Int.ofNat_le.2 hp1,rfl⟩,?_⟩
  (conv=>whnf)
  refine⟨ns,root,_,(nd ns i).kids.take 1,_,_,rfl,eTk hp1,fun j hj=>fTk j hj,st,by rw [← eTk hp1];decide,htk,?_⟩
  (conv=>whnf)
  clear hpos hq0 hc hcc hown
  repeat' (first|((first|refine two_eq ?_ ?_|refine two_ne ?_ ?_|refine two_not ?_ ?_|refine two_dec ?_ ?_|refine two_intro ?_ ?_)<;>intro h<;>conv=>whnf)|((first|refine Chk.mk ?_ ?_|refine And.intro ?_ ?_);(focus (((repeat' (refine And.intro ?_ ?_))<;>(first|omega|rfl|(simp only [List.length_append,List.length_cons,List.length_nil];omega)|fail));done));conv=>whnf)|(refine And.intro ?_ ?_;(focus ((conv=>whnf);first|done|exact⟨⟨by omega,by omega,rfl⟩,by conv=>whnf⟩|fail));conv=>whnf)|(refine⟨ns,root,i,rfl,rt,hi,?_⟩;conv=>whnf)|(refine⟨ns,root,i,_,rfl,st,hi,?_⟩;conv=>whnf)|(refine⟨ns,root,_,(nd ns i).kids,_,_,rfl,rfl,fun _ _=>rfl,st,hlk,hqk,?_⟩;conv=>whnf)|(refine⟨ns,root,nd ns i,rfl,st,hlk,hqk,?_⟩;conv=>whnf)|(refine⟨ns,root,_,rfl,?_⟩;conv=>whnf)|fail)
  all_goals refine hr _ _ rfl (ret_eq hk (congrArg intV ?_))
  all_goals clear hr hk
  all_goals (try simp only [hnd,Int.toNat_natCast] at *)
  all_goals clear hnd eTl fTl eTk fTk htl htk hqk hlk hmany hlen st rt
  all_goals (first|rw [ck2 (by assumption)]|rw [ck3 (by assumption)]|rw [ck4 (by assumption)]|rw [ck5 (by assumption)]|rw [ck22 (by assumption)]|rw [ck23 (by assumption)]|rw [ck8 (by assumption)]|rw [ck17 (by assumption)]|rw [ck24 (by assumption)]|rw [ck9 (by assumption)]|rw [ck16 (by assumption)]|rw [ck7 (by assumption)]|rw [ck25 (by assumption)]|rw [ck26 (by assumption)]|rw [ck27 (by assumption)]|rw [ck10 (by assumption)]|rw [ck15 (by assumption)]|rw [ck11 (by assumption)]|rw [ck12 (by assumption)]|rw [ck13 (by assumption)]|rw [ck14 (by assumption)]|rw [ckD (by assumption) (by assumption) (by assumption) (by assumption) (by assumption) (by assumption) (by assumption) (by assumption) (by assumption) (by assumption) (by assumption) (by assumption) (by assumption) (by assumption) (by assumption) (by assumption) (by assumption) (by assumption) (by assumption) (by assumption) (by assumption)]|fail)
  all_goals (first|rfl|(simp_all [toldS,tnamedS];done))
 ·have hp1:=hpos (.inr (.inr (.inr (.inl (by assumption)))))
  refine⟨⟨by decide,by decide,Int.ofNat_le.2 hp1,rfl⟩,?_⟩
  (conv=>whnf)
  refine⟨ns,root,_,(nd ns i).kids.take 1,_,_,rfl,eTk hp1,fun j hj=>fTk j hj,st,by rw [← eTk hp1];decide,htk,?_⟩
  (conv=>whnf)
  clear hpos hq0 hc hcc hown
  repeat' (first|((first|refine two_eq ?_ ?_|refine two_ne ?_ ?_|refine two_not ?_ ?_|refine two_dec ?_ ?_|refine two_intro ?_ ?_)<;>intro h<;>conv=>whnf)|((first|refine Chk.mk ?_ ?_|refine And.intro ?_ ?_);(focus (((repeat' (refine And.intro ?_ ?_))<;>(first|omega|rfl|(simp only [List.length_append,List.length_cons,List.length_nil];omega)|fail));done));conv=>whnf)|(refine And.intro ?_ ?_;(focus ((conv=>whnf);first|done|exact⟨⟨by omega,by omega,rfl⟩,by conv=>whnf⟩|fail));conv=>whnf)|(refine⟨ns,root,i,rfl,rt,hi,?_⟩;conv=>whnf)|(refine⟨ns,root,i,_,rfl,st,hi,?_⟩;conv=>whnf)|(refine⟨ns,root,_,(nd ns i).kids,_,_,rfl,rfl,fun _ _=>rfl,st,hlk,hqk,?_⟩;conv=>whnf)|(refine⟨ns,root,nd ns i,rfl,st,hlk,hqk,?_⟩;conv=>whnf)|(refine⟨ns,root,_,rfl,?_⟩;conv=>whnf)|fail)
  all_goals refine hr _ _ rfl (ret_eq hk (congrArg intV ?_))
  all_goals clear hr hk
  all_goals (try simp only [hnd,Int.toNat_natCast] at *)
  all_goals clear hnd eTl fTl eTk fTk htl htk hqk hlk hmany hlen st rt
  all_goals (first|rw [ck2 (by assumption)]|rw [ck3 (by assumption)]|rw [ck4 (by assumption)]|rw [ck5 (by assumption)]|rw [ck22 (by assumption)]|rw [ck23 (by assumption)]|rw [ck8 (by assumption)]|rw [ck17 (by assumption)]|rw [ck24 (by assumption)]|rw [ck9 (by assumption)]|rw [ck16 (by assumption)]|rw [ck7 (by assumption)]|rw [ck25 (by assumption)]|rw [ck26 (by assumption)]|rw [ck27 (by assumption)]|rw [ck10 (by assumption)]|rw [ck15 (by assumption)]|rw [ck11 (by assumption)]|rw [ck12 (by assumption)]|rw [ck13 (by assumption)]|rw [ck14 (by assumption)]|rw [ckD (by assumption) (by assumption) (by assumption) (by assumption) (by assumption) (by assumption) (by assumption) (by assumption) (by assumption) (by assumption) (by assumption) (by assumption) (by assumption) (by assumption) (by assumption) (by assumption) (by assumption) (by assumption) (by assumption) (by assumption) (by assumption)]|fail)
  all_goals (first|rfl|(simp_all [toldS,tnamedS];done))
 ·have e:=hcc (.inr (.inr (.inr (.inr (by assumption)))))
  refine⟨ns,root,i,nd ns i,_,_,rfl,st,hi,e,hqk,hlk,?_⟩
  (conv=>whnf)
  clear hpos hq0 hc hcc hown
  repeat' (first|((first|refine two_eq ?_ ?_|refine two_ne ?_ ?_|refine two_not ?_ ?_|refine two_dec ?_ ?_|refine two_intro ?_ ?_)<;>intro h<;>conv=>whnf)|((first|refine Chk.mk ?_ ?_|refine And.intro ?_ ?_);(focus (((repeat' (refine And.intro ?_ ?_))<;>(first|omega|rfl|(simp only [List.length_append,List.length_cons,List.length_nil];omega)|fail));done));conv=>whnf)|(refine And.intro ?_ ?_;(focus ((conv=>whnf);first|done|exact⟨⟨by omega,by omega,rfl⟩,by conv=>whnf⟩|fail));conv=>whnf)|(refine⟨ns,root,i,rfl,rt,hi,?_⟩;conv=>whnf)|(refine⟨ns,root,i,_,rfl,st,hi,?_⟩;conv=>whnf)|(refine⟨ns,root,_,(nd ns i).kids,_,_,rfl,rfl,fun _ _=>rfl,st,hlk,hqk,?_⟩;conv=>whnf)|(refine⟨ns,root,nd ns i,rfl,st,hlk,hqk,?_⟩;conv=>whnf)|(refine⟨ns,root,_,rfl,?_⟩;conv=>whnf)|fail)
  all_goals refine hr _ _ rfl (ret_eq hk (congrArg intV ?_))
  all_goals clear hr hk
  all_goals (try simp only [hnd,Int.toNat_natCast] at *)
  all_goals clear hnd eTl fTl eTk fTk htl htk hqk hlk hmany hlen st rt
  all_goals (first|rw [ck2 (by assumption)]|rw [ck3 (by assumption)]|rw [ck4 (by assumption)]|rw [ck5 (by assumption)]|rw [ck22 (by assumption)]|rw [ck23 (by assumption)]|rw [ck8 (by assumption)]|rw [ck17 (by assumption)]|rw [ck24 (by assumption)]|rw [ck9 (by assumption)]|rw [ck16 (by assumption)]|rw [ck7 (by assumption)]|rw [ck25 (by assumption)]|rw [ck26 (by assumption)]|rw [ck27 (by assumption)]|rw [ck10 (by assumption)]|rw [ck15 (by assumption)]|rw [ck11 (by assumption)]|rw [ck12 (by assumption)]|rw [ck13 (by assumption)]|rw [ck14 (by assumption)]|rw [ckD (by assumption) (by assumption) (by assumption) (by assumption) (by assumption) (by assumption) (by assumption) (by assumption) (by assumption) (by assumption) (by assumption) (by assumption) (by assumption) (by assumption) (by assumption) (by assumption) (by assumption) (by assumption) (by assumption) (by assumption) (by assumption)]|fail)
  all_goals (first|rfl|(simp_all [toldS,tnamedS];done))
 all_goals
  have hz:∀ n:Nat,((n:Int)==0)=(n==0):=fun n=>by cases n<;>rfl
  refine hr _ _ rfl (ret_eq hk (congrArg intV ?_))
  clear hr hk hpos hq0 hc hcc hown
  simp only [hnd,Int.toNat_natCast,hz] at *
  clear hnd eTl fTl eTk fTk htl htk hqk hlk hmany hlen st rt hz
  rw [ck14 (by assumption)]
  simp_all [toldS]
end Go.Proofs.YtcmepkfefoidcaaGreatDoor
