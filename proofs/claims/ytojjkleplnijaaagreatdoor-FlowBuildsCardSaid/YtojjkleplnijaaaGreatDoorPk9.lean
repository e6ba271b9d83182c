/-
  On the way to flowBuilds_card: part 9 of 10.
-/
import Derived.Test.YtojjkleplnijaaaGreatDoorPk1
import Derived.Test.YtojjkleplnijaaaGreatDoorPk5
import Derived.Test.YtojjkleplnijaaaGreatDoorPk7
import Derived.Test.YtojjkleplnijaaaGreatDoorPk8
set_option linter.unusedVariables false
set_option linter.unusedSimpArgs false
namespace Go.Proofs.YtojjkleplnijaaaGreatDoor
open Go.AE Go.Ru
set_option maxRecDepth 100000
set_option maxHeartbeats 1000000
def gRo:AG:=gput 60 cRtyped (gput 63 cRamongL (gput 153 cRall7 g0))
theorem gRo_ok:GOk Tryz.prog gRo:=gput_ok rtyped_ok (gput_ok ramongL_ok (gput_ok rall7_ok g0_ok))
def cRoper:AC:=fun args K k=>∃ ns root i b,args=[treeV ns root,nodeV (nd ns i)]∧RightT ns root∧i<List.length ns∧((nd ns i).k=26∨(nd ns i).k=27)∧operR ns root (nd ns i)=b∧k (.ret (.p (.bool b))) K
theorem roper_ok:COk 110 cRoper:=by
 rintro args K k ⟨ns,root,i,b,rfl,rt,hi,hk2,rfl,hk⟩
 have hlen:=rt.len
 have hmany:=rt.many i hi
 have hin:=rt.inr hi
 have two_of:((nd ns i).tx=[61,61]∨(nd ns i).tx=[33,61])→∃ q r,(nd ns i).kids=[q,r]:=fun h1=>by
  refine kids_two rt hi (.inr (.inl ?_))
  rcases hk2 with e|e
  ·have:=rt.tx i hi
   rw [e] at this
   rcases h1 with e1|e1 <;> rw [e1] at this <;> exact absurd this (by decide)
  ·exact e
 have hw3:∀ (f:Nat→List AV),f 0=[.p (.str [33])]→f 1=[.p (.str [38,38])]→f 2=[.p (.str [124,124])]→∀ j,j<3→f j=pvs (strF boolW j):=fun f h0 h1 h2 j hj=>by
  match j,hj with
  | 0,_=>exact h0
  | 1,_=>exact h1
  | 2,_=>exact h2
  | n+3,h=>exact absurd h (by omega)
 refine frame0P gRo_ok 19 rfl fun Q hr=>?_
 conv=>whnf
 refine two_eq (fun h=>?_) (fun h=>?_)
 ·have h:(nd ns i).tx=[61,61]:=h
  obtain⟨q,r,hqr⟩:=two_of (.inl h)
  have hl2:((nd ns i).kids.length:Int)=2:=by rw [hqr];rfl
  have h0l:(0:Int)<((nd ns i).kids.length:Int):=by omega
  have h1l:(1:Int)<((nd ns i).kids.length:Int):=by omega
  have hq0:=hin _ (getD_mem (l:=(nd ns i).kids) (i:=0) (by omega))
  have hq1:=hin _ (getD_mem (l:=(nd ns i).kids) (i:=1) (by omega))
  rw [operR,if_pos (.inl h)] at hk
  obtain⟨a,ha⟩:∃ a,tyS ns root ((nd ns i).kids.getD 0 0).toNat=a:=⟨_,rfl⟩
  obtain⟨a1,ha1⟩:∃ a,tyS ns root ((nd ns i).kids.getD 1 0).toNat=a:=⟨_,rfl⟩
  rw [ha,ha1] at hk
  conv=>whnf
  refine⟨⟨by omega,h0l,rfl⟩,?_⟩
  conv=>whnf
  refine⟨ns,root,_,((nd ns i).kids.getD 0 0).toNat,a,rfl,(Int.toNat_of_nonneg hq0.1).symm,rt,by omega,ha,?_⟩
  conv=>whnf
  refine⟨⟨by omega,h1l,rfl⟩,?_⟩
  conv=>whnf
  refine⟨ns,root,_,((nd ns i).kids.getD 1 0).toNat,a1,rfl,(Int.toNat_of_nonneg hq1.1).symm,rt,by omega,ha1,?_⟩
  conv=>whnf
  repeat' (first|(refine two_eq (fun h=>?_) (fun h=>?_) <;> (conv=>whnf))|(refine two_ne (fun h=>?_) (fun h=>?_) <;> (conv=>whnf))|(refine two_not (fun h=>?_) (fun h=>?_) <;> (conv=>whnf))|(refine two_dec (fun h=>?_) (fun h=>?_) <;> (conv=>whnf))|(refine two_intro (fun h=>?_) (fun h=>?_) <;> (conv=>whnf))|(refine Chk.mk ?_ ?_;(focus (((repeat' (refine And.intro ?_ ?_)) <;> (first|omega|rfl|(simp only [List.length_append,List.length_cons,List.length_nil];omega)|fail));done));(conv=>whnf))|(refine And.intro ?_ ?_;(focus (((repeat' (refine And.intro ?_ ?_)) <;> (first|omega|rfl|(simp only [List.length_append,List.length_cons,List.length_nil];omega)|fail));done));(conv=>whnf))|(refine Exists.intro _ (And.intro rfl ?_))|(refine Exists.intro _ (Exists.intro _ (And.intro rfl ?_)))|(refine Exists.intro _ (Exists.intro _ (Exists.intro _ (And.intro rfl ?_))))|fail)
  all_goals refine hr _ _ rfl (ret_eq hk (congrArg (fun b=>AV.p (.bool b)) ?_))
  all_goals clear hr hk ha ha1 hq0 hq1 hin hw3 two_of hl2 h0l h1l
  all_goals first|(simp [*];done)|(simp [*];omega)
 have h:(nd ns i).tx≠[61,61]:=h
 conv=>whnf
 refine two_eq (fun h2=>?_) (fun h2=>?_)
 ·have h2:(nd ns i).tx=[33,61]:=h2
  obtain⟨q,r,hqr⟩:=two_of (.inr h2)
  have hl2:((nd ns i).kids.length:Int)=2:=by rw [hqr];rfl
  have h0l:(0:Int)<((nd ns i).kids.length:Int):=by omega
  have h1l:(1:Int)<((nd ns i).kids.length:Int):=by omega
  have hq0:=hin _ (getD_mem (l:=(nd ns i).kids) (i:=0) (by omega))
  have hq1:=hin _ (getD_mem (l:=(nd ns i).kids) (i:=1) (by omega))
  rw [operR,if_pos (.inr h2)] at hk
  obtain⟨a,ha⟩:∃ a,tyS ns root ((nd ns i).kids.getD 0 0).toNat=a:=⟨_,rfl⟩
  obtain⟨a1,ha1⟩:∃ a,tyS ns root ((nd ns i).kids.getD 1 0).toNat=a:=⟨_,rfl⟩
  rw [ha,ha1] at hk
  conv=>whnf
  refine⟨⟨by omega,h0l,rfl⟩,?_⟩
  conv=>whnf
  refine⟨ns,root,_,((nd ns i).kids.getD 0 0).toNat,a,rfl,(Int.toNat_of_nonneg hq0.1).symm,rt,by omega,ha,?_⟩
  conv=>whnf
  refine⟨⟨by omega,h1l,rfl⟩,?_⟩
  conv=>whnf
  refine⟨ns,root,_,((nd ns i).kids.getD 1 0).toNat,a1,rfl,(Int.toNat_of_nonneg hq1.1).symm,rt,by omega,ha1,?_⟩
  conv=>whnf
  repeat' (first|(refine two_eq (fun h=>?_) (fun h=>?_) <;> (conv=>whnf))|(refine two_ne (fun h=>?_) (fun h=>?_) <;> (conv=>whnf))|(refine two_not (fun h=>?_) (fun h=>?_) <;> (conv=>whnf))|(refine two_dec (fun h=>?_) (fun h=>?_) <;> (conv=>whnf))|(refine two_intro (fun h=>?_) (fun h=>?_) <;> (conv=>whnf))|(refine Chk.mk ?_ ?_;(focus (((repeat' (refine And.intro ?_ ?_)) <;> (first|omega|rfl|(simp only [List.length_append,List.length_cons,List.length_nil];omega)|fail));done));(conv=>whnf))|(refine And.intro ?_ ?_;(focus (((repeat' (refine And.intro ?_ ?_)) <;> (first|omega|rfl|(simp only [List.length_append,List.length_cons,List.length_nil];omega)|fail));done));(conv=>whnf))|(refine Exists.intro _ (And.intro rfl ?_))|(refine Exists.intro _ (Exists.intro _ (And.intro rfl ?_)))|(refine Exists.intro _ (Exists.intro _ (Exists.intro _ (And.intro rfl ?_))))|fail)
  all_goals refine hr _ _ rfl (ret_eq hk (congrArg (fun b=>AV.p (.bool b)) ?_))
  all_goals clear hr hk ha ha1 hq0 hq1 hin hw3 two_of hl2 h0l h1l
  all_goals first|(simp [*];done)|(simp [*];omega)
 have h2:(nd ns i).tx≠[33,61]:=h2
 rw [operR,if_neg (by rintro (e|e);exact h e;exact h2 e)] at hk
 conv=>whnf
 refine⟨boolW,_,3,_,_,_,_,rfl,rfl,rfl,hw3 _ rfl rfl rfl,by decide,bool_any _,?_⟩
 conv=>whnf
 refine two_dec (fun h3=>?_) (fun h3=>?_)
 ·rw [if_pos h3] at hk
  conv=>whnf
  refine⟨ns,root,2,(nd ns i).kids,_,_,_,rfl,rfl,fun _ _=>rfl,rt,by omega,hin,rfl,?_⟩
  conv=>whnf
  exact hr _ _ rfl hk
 ·rw [if_neg h3] at hk
  conv=>whnf
  refine⟨ns,root,1,(nd ns i).kids,_,_,_,rfl,rfl,fun _ _=>rfl,rt,by omega,hin,rfl,?_⟩
  conv=>whnf
  exact hr _ _ rfl hk
def gRc7:AG:=gput 56 cRmeans (gput 51 cRof (gput 52 cRparams (gput 114 cRkind (gput 60 cRtyped g0))))
theorem gRc7_ok:GOk Tryz.prog gRc7:=gput_ok rmeans_ok (gput_ok rof_ok (gput_ok rparams_ok (gput_ok rkind_ok (gput_ok rtyped_ok g0_ok))))
theorem fit_drop {ns:List Nd} {root:Int} {l w:List Int} {j:Nat} (hj:j<w.length) (hl:l.length=w.length):fitS ns root (l.drop j) (w.drop j)=(tyS ns root (l.getD j 0).toNat==w.getD j 0&&fitS ns root (l.drop (j+1)) (w.drop (j+1))):=by
 rw [List.drop_eq_getElem_cons (by omega:j<l.length),List.drop_eq_getElem_cons hj]
 simp only [fitS]
 congr 2
 ·simp [show j<l.length by omega]
 ·simp [hj]
def cRcall:AC:=fun args K k=>∃ ns root i' i v,args=[treeV ns root,intV i']∧i'=((i:Nat):Int)∧RightT ns root∧i<ns.length∧(nd ns i).k=13∧tcallS ns root i (nd ns i)=v∧k (.ret (intV v)) K
theorem rcall_ok:COk 111 cRcall:=by
 rintro args K k ⟨ns,root,_,i,v,rfl,rfl,rt,hi,hk13,rfl,hk⟩
 have hlen:=rt.len
 have hmany:=rt.many i hi
 have hin:=rt.inr hi
 have hrl:=rt.rlt
 have hrt:=rt.rt
 obtain⟨q0,r,hkd⟩:=kids_cons rt hi (.inr (.inr (.inr (.inr hk13))))
 have h0l:(0:Int)<((nd ns i).kids.length:Int):=by rw [hkd];simp only [List.length_cons];omega
 have hq0:=hin _ (getD_mem (l:=(nd ns i).kids) (i:=0) (by omega))
 obtain⟨d,hd⟩:∃ d,meansS ns root i (nd ns ((nd ns i).kids.getD 0 0).toNat).tx=d:=⟨_,rfl⟩
 obtain⟨p,hp⟩:∃ p,procI ns (nd ns ((nd ns i).kids.getD 0 0).toNat).tx=p:=⟨_,rfl⟩
 have hdr:=means_range ns root i (nd ns ((nd ns i).kids.getD 0 0).toNat).tx
 have hpr:=procI_range ns (nd ns ((nd ns i).kids.getD 0 0).toNat).tx
 rw [hd] at hdr
 rw [hp] at hpr
 obtain⟨e,he⟩:∃ e,meansS ns root i (nd ns i).tx=e:=⟨_,rfl⟩
 have her:=means_range ns root i (nd ns i).tx
 rw [he] at her
 obtain⟨kd,hkd2⟩:∃ kd,kindS ns root i (nd ns i).tx=kd:=⟨_,rfl⟩
 unfold tcallS at hk
 simp only [hd,hp,he,hkd2] at hk
 refine frame0P gRc7_ok 19 rfl fun Q hr=>?_
 conv=>whnf
 refine⟨⟨by omega,by omega,rfl⟩,?_⟩
 conv=>whnf
 refine⟨⟨by omega,h0l,rfl⟩,?_⟩
 conv=>whnf
 refine⟨⟨hq0.1,hq0.2,rfl⟩,?_⟩
 conv=>whnf
 refine⟨ns,root,_,i,_,d,rfl,rfl,rt,hi,hd,?_⟩
 conv=>whnf
 repeat ((refine And.intro ?_ ?_);(focus ((conv=>whnf);first|done|exact⟨⟨by omega,by omega,rfl⟩,by conv=>whnf⟩));(conv=>whnf))
 refine⟨ns,root,_,root.toNat,3,3,_,p,rfl,by omega,rt,hrl,(of_proc rt _).trans hp,?_⟩
 conv=>whnf
 repeat ((refine And.intro ?_ ?_);(focus ((conv=>whnf);first|done|exact⟨⟨by omega,by omega,rfl⟩,by conv=>whnf⟩));(conv=>whnf))
 refine two_dec (fun hd1=>?_) (fun hd1=>?_)
 ·have hd1:d=-1:=by have hd1:d<0:=hd1;omega
  conv=>whnf
  refine two_dec (fun hp1=>?_) (fun hp1=>?_)
  ·have hp1:p=-1:=by have hp1:p<0:=hp1;omega
   rw [if_pos (.inl ⟨hd1,hp1⟩)] at hk
   conv=>whnf
   exact hr _ _ rfl hk
  have hp1:¬ p<0:=hp1
  have hpr:=hpr.resolve_left (by omega)
  conv=>whnf
  refine two_ne (fun h3=>?_) (fun h3=>?_)
  ·have h3:(nd ns i).tx≠[]:=h3
   conv=>whnf
   refine⟨ns,root,_,i,_,e,rfl,rfl,rt,hi,he,?_⟩
   conv=>whnf
   refine two_dec (fun h4=>?_) (fun h4=>?_)
   ·have h4:e=-1:=by have h4:e<0:=h4;omega
    rw [if_pos (.inr ⟨h3,h4⟩)] at hk
    conv=>whnf
    exact hr _ _ rfl hk
   have h4:¬ e<0:=h4
   rw [if_neg (by rintro (⟨_,e1⟩|⟨e1,e2⟩);omega;omega),if_pos hd1] at hk
   obtain⟨ps,hps⟩:∃ ps,paramsS ns p.toNat=ps:=⟨_,rfl⟩
   have hpl:=params_le ns p.toNat
   have hpm:=rt.many p.toNat (by omega)
   rw [hps] at hpl hk
   have hd1':d<0:=by omega
   conv=>whnf
   refine two_dec (fun _=>?_) (fun h=>absurd hd1' h)
   conv=>whnf
   refine⟨ns,root,_,p.toNat,ps,rfl,by omega,rt,by omega,hps,?_⟩
   conv=>whnf
   refine⟨⟨by omega,by omega,rfl⟩,?_⟩
   have hlb:List.length ps<100000:=by omega
   conv=>whnf
   refine two_ne (fun h7=>?_) (fun h7=>?_)
   ·have h7:((nd ns i).kids.length:Int)≠IntKind.i64.wrap ((List.length ps:Int)+1):=h7
    have hf:fitS ns root (nd ns i).kids.tail ps=false:=by
     rw [← Bool.not_eq_true];intro e;have:=fit_len _ _ e;rw [List.length_tail] at this;exact h7 (by rw [wzz (by omega)];omega)
    rw [hf] at hk
    conv=>whnf
    exact hr _ _ rfl hk
   have h7:(nd ns i).kids.length=List.length ps+1:=by
    have h7:((nd ns i).kids.length:Int)=IntKind.i64.wrap ((List.length ps:Int)+1):=h7
    rw [wzz (by omega)] at h7;omega
   have htl:(nd ns i).kids.tail.length=List.length ps:=by rw [List.length_tail];omega
   conv=>whnf
   refine two_ne (fun h8=>?_) (fun h8=>?_)
   ·have h8:(nd ns i).tx≠[]:=h8
    rw [beq_eq_false_iff_ne.2 h8,Bool.false_or] at hk
    conv=>whnf
    refine two_eq (fun h11=>?_) (fun h11=>?_)
    ·have h11:(nd ns p.toNat).n=(0:Int):=h11
     rw [h11,show ((0:Int) != 0)=false from rfl,Bool.false_and,Bool.and_false] at hk
     conv=>whnf
     exact hr _ _ rfl hk
    have h11:(nd ns p.toNat).n≠(0:Int):=h11
    rw [bne_iff_ne.2 h11,Bool.true_and] at hk
    conv=>whnf
    refine⟨ns,root,_,i,_,kd,rfl,rfl,rt,hi,hkd2,?_⟩
    conv=>whnf
    refine two_ne (fun h12=>?_) (fun h12=>?_)
    ·have h12:kd≠(nd ns p.toNat).n:=h12
     rw [beq_eq_false_iff_ne.2 h12,Bool.and_false] at hk
     conv=>whnf
     exact hr _ _ rfl hk
    have h12:kd=(nd ns p.toNat).n:=h12
    rw [beq_iff_eq.2 h12,Bool.and_true] at hk
    conv=>whnf
    refine loop_up (ι:=Nat) [2,5,9] (fun j=>[(11,intV j)]) (fun _=>[]) (fun j=>j≤List.length ps∧fitS ns root ((nd ns i).kids.tail.drop j) (List.drop j ps)=fitS ns root (nd ns i).kids.tail ps) (fun j=>List.length ps - j) 0 ⟨AV.le_refl _,trivial⟩ (trivial) ⟨Nat.zero_le _,by simp⟩ ?_
    rintro Y hle j ⟨hj,hfe⟩ ih
    conv=>whnf
    refine two_dec (fun h9=>?_) (fun h9=>?_)
    ·have h9:j<List.length ps:=by have h9:(j:Int)<(List.length ps:Int):=h9;omega
     have h9':(j:Int)<(List.length ps:Int):=by omega
     skip
     have hw1:=wzz (i:=j) (by omega)
     have hw1':IntKind.i64.wrap ((j:Int)+1)=((j+1:Nat):Int):=hw1
     have hj1:j+1<(nd ns i).kids.length:=by omega
     have hx0:0≤IntKind.i64.wrap ((j:Int)+1):=by rw [hw1];omega
     have hx1:IntKind.i64.wrap ((j:Int)+1)<((nd ns i).kids.length:Int):=by rw [hw1];omega
     have hqj:=hin _ (getD_mem hj1)
     rw [fit_drop h9 htl] at hfe
     have etl:(nd ns i).kids.tail.getD j 0=(nd ns i).kids.getD (j+1) 0:=by cases (nd ns i).kids <;> rfl
     rw [etl] at hfe
     obtain⟨ty,hty⟩:∃ ty,tyS ns root ((nd ns i).kids.getD (j+1) 0).toNat=ty:=⟨_,rfl⟩
     rw [hty] at hfe
     have hqe:(nd ns i).kids.getD (IntKind.i64.wrap ((j:Int)+1)).toNat 0=((((nd ns i).kids.getD (j+1) 0).toNat:Nat):Int):=by rw [hw1,Int.toNat_natCast];omega
     conv=>whnf
     refine⟨⟨hx0,hx1,rfl⟩,?_⟩
     conv=>whnf
     (refine⟨⟨by omega,h9',rfl⟩,?_⟩;(conv=>whnf))
     refine⟨ns,root,_,((nd ns i).kids.getD (j+1) 0).toNat,ty,rfl,hqe,rt,by omega,hty,?_⟩
     conv=>whnf
     repeat ((refine And.intro ?_ ?_);(focus ((conv=>whnf);first|done|exact⟨⟨by omega,h9',rfl⟩,by conv=>whnf⟩|exact⟨⟨hx0,hx1,rfl⟩,by conv=>whnf⟩|exact⟨⟨rfl,rfl,by omega,h9',rfl⟩,by conv=>whnf⟩|exact⟨⟨rfl,rfl⟩,by conv=>whnf⟩));(conv=>whnf))
     refine two_ne (fun h10=>?_) (fun h10=>?_)
     ·have h10:ty≠List.getD ps j 0:=(fun h=>h) h10
      rw [beq_eq_false_iff_ne.2 h10,Bool.false_and] at hfe
      rw [← hfe] at hk
      conv=>whnf
      exact hr _ _ rfl hk
     ·have h10:ty=List.getD ps j 0:=(fun h=>h) h10
      rw [beq_iff_eq.2 h10,Bool.true_and] at hfe
      conv=>whnf
      refine hle _ _ (Le.env ?_ ?_) (ih (j+1) (by omega) ⟨by omega,hfe⟩)
      ·skip
       repeat' (first|exact trivial|((conv=>whnf);first|exact trivial|refine⟨AV.le_refl _,?_⟩|refine⟨ABlk.le_refl _,?_⟩|(refine And.intro (AV.le_of_eq ?_) ?_;focus ((first|exact congrArg intV hw1);done))|(refine And.intro (ABlk.le_of_eq ?_) ?_;focus ((first|exact congrArg intV hw1);done))|fail)|fail)
      ·skip
       repeat' (first|exact trivial|((conv=>whnf);first|exact trivial|refine⟨AV.le_refl _,?_⟩|refine⟨ABlk.le_refl _,?_⟩|(refine And.intro (AV.le_of_eq ?_) ?_;focus ((first|fail);done))|(refine And.intro (ABlk.le_of_eq ?_) ?_;focus ((first|fail);done))|fail)|fail)
    ·obtain rfl:j=List.length ps:=by have h9:¬ (j:Int)<(List.length ps:Int):=h9;omega
     rw [List.drop_of_length_le (by omega),List.drop_of_length_le (Nat.le_refl _)] at hfe
     have hfe:true=fitS ns root (nd ns i).kids.tail ps:=hfe
     rw [← hfe] at hk
     conv=>whnf
     exact hr _ _ rfl hk
   ·have h8:(nd ns i).tx=[]:=h8
    rw [beq_iff_eq.2 h8,Bool.true_or,Bool.and_true] at hk
    conv=>whnf
    refine loop_up (ι:=Nat) [2,5,9] (fun j=>[(11,intV j)]) (fun _=>[]) (fun j=>j≤List.length ps∧fitS ns root ((nd ns i).kids.tail.drop j) (List.drop j ps)=fitS ns root (nd ns i).kids.tail ps) (fun j=>List.length ps - j) 0 ⟨AV.le_refl _,trivial⟩ (trivial) ⟨Nat.zero_le _,by simp⟩ ?_
    rintro Y hle j ⟨hj,hfe⟩ ih
    conv=>whnf
    refine two_dec (fun h9=>?_) (fun h9=>?_)
    ·have h9:j<List.length ps:=by have h9:(j:Int)<(List.length ps:Int):=h9;omega
     have h9':(j:Int)<(List.length ps:Int):=by omega
     skip
     have hw1:=wzz (i:=j) (by omega)
     have hw1':IntKind.i64.wrap ((j:Int)+1)=((j+1:Nat):Int):=hw1
     have hj1:j+1<(nd ns i).kids.length:=by omega
     have hx0:0≤IntKind.i64.wrap ((j:Int)+1):=by rw [hw1];omega
     have hx1:IntKind.i64.wrap ((j:Int)+1)<((nd ns i).kids.length:Int):=by rw [hw1];omega
     have hqj:=hin _ (getD_mem hj1)
     rw [fit_drop h9 htl] at hfe
     have etl:(nd ns i).kids.tail.getD j 0=(nd ns i).kids.getD (j+1) 0:=by cases (nd ns i).kids <;> rfl
     rw [etl] at hfe
     obtain⟨ty,hty⟩:∃ ty,tyS ns root ((nd ns i).kids.getD (j+1) 0).toNat=ty:=⟨_,rfl⟩
     rw [hty] at hfe
     have hqe:(nd ns i).kids.getD (IntKind.i64.wrap ((j:Int)+1)).toNat 0=((((nd ns i).kids.getD (j+1) 0).toNat:Nat):Int):=by rw [hw1,Int.toNat_natCast];omega
     conv=>whnf
     refine⟨⟨hx0,hx1,rfl⟩,?_⟩
     conv=>whnf
     (refine⟨⟨by omega,h9',rfl⟩,?_⟩;(conv=>whnf))
     refine⟨ns,root,_,((nd ns i).kids.getD (j+1) 0).toNat,ty,rfl,hqe,rt,by omega,hty,?_⟩
     conv=>whnf
     repeat ((refine And.intro ?_ ?_);(focus ((conv=>whnf);first|done|exact⟨⟨by omega,h9',rfl⟩,by conv=>whnf⟩|exact⟨⟨hx0,hx1,rfl⟩,by conv=>whnf⟩|exact⟨⟨rfl,rfl,by omega,h9',rfl⟩,by conv=>whnf⟩|exact⟨⟨rfl,rfl⟩,by conv=>whnf⟩));(conv=>whnf))
     refine two_ne (fun h10=>?_) (fun h10=>?_)
     ·have h10:ty≠List.getD ps j 0:=(fun h=>h) h10
      rw [beq_eq_false_iff_ne.2 h10,Bool.false_and] at hfe
      rw [← hfe] at hk
      conv=>whnf
      exact hr _ _ rfl hk
     ·have h10:ty=List.getD ps j 0:=(fun h=>h) h10
      rw [beq_iff_eq.2 h10,Bool.true_and] at hfe
      conv=>whnf
      refine hle _ _ (Le.env ?_ ?_) (ih (j+1) (by omega) ⟨by omega,hfe⟩)
      ·skip
       repeat' (first|exact trivial|((conv=>whnf);first|exact trivial|refine⟨AV.le_refl _,?_⟩|refine⟨ABlk.le_refl _,?_⟩|(refine And.intro (AV.le_of_eq ?_) ?_;focus ((first|exact congrArg intV hw1);done))|(refine And.intro (ABlk.le_of_eq ?_) ?_;focus ((first|exact congrArg intV hw1);done))|fail)|fail)
      ·skip
       repeat' (first|exact trivial|((conv=>whnf);first|exact trivial|refine⟨AV.le_refl _,?_⟩|refine⟨ABlk.le_refl _,?_⟩|(refine And.intro (AV.le_of_eq ?_) ?_;focus ((first|fail);done))|(refine And.intro (ABlk.le_of_eq ?_) ?_;focus ((first|fail);done))|fail)|fail)
    ·obtain rfl:j=List.length ps:=by have h9:¬ (j:Int)<(List.length ps:Int):=h9;omega
     rw [List.drop_of_length_le (by omega),List.drop_of_length_le (Nat.le_refl _)] at hfe
     have hfe:true=fitS ns root (nd ns i).kids.tail ps:=hfe
     rw [← hfe] at hk
     conv=>whnf
     exact hr _ _ rfl hk
  ·have h3:(nd ns i).tx=[]:=h3
   rw [if_neg (by rintro (⟨_,e1⟩|⟨e1,e2⟩);omega;exact e1 h3),if_pos hd1] at hk
   obtain⟨ps,hps⟩:∃ ps,paramsS ns p.toNat=ps:=⟨_,rfl⟩
   have hpl:=params_le ns p.toNat
   have hpm:=rt.many p.toNat (by omega)
   rw [hps] at hpl hk
   have hd1':d<0:=by omega
   conv=>whnf
   refine two_dec (fun _=>?_) (fun h=>absurd hd1' h)
   conv=>whnf
   refine⟨ns,root,_,p.toNat,ps,rfl,by omega,rt,by omega,hps,?_⟩
   conv=>whnf
   refine⟨⟨by omega,by omega,rfl⟩,?_⟩
   have hlb:List.length ps<100000:=by omega
   conv=>whnf
   refine two_ne (fun h7=>?_) (fun h7=>?_)
   ·have h7:((nd ns i).kids.length:Int)≠IntKind.i64.wrap ((List.length ps:Int)+1):=h7
    have hf:fitS ns root (nd ns i).kids.tail ps=false:=by
     rw [← Bool.not_eq_true];intro e;have:=fit_len _ _ e;rw [List.length_tail] at this;exact h7 (by rw [wzz (by omega)];omega)
    rw [hf] at hk
    conv=>whnf
    exact hr _ _ rfl hk
   have h7:(nd ns i).kids.length=List.length ps+1:=by
    have h7:((nd ns i).kids.length:Int)=IntKind.i64.wrap ((List.length ps:Int)+1):=h7
    rw [wzz (by omega)] at h7;omega
   have htl:(nd ns i).kids.tail.length=List.length ps:=by rw [List.length_tail];omega
   conv=>whnf
   refine two_ne (fun h8=>?_) (fun h8=>?_)
   ·have h8:(nd ns i).tx≠[]:=h8
    rw [beq_eq_false_iff_ne.2 h8,Bool.false_or] at hk
    conv=>whnf
    refine two_eq (fun h11=>?_) (fun h11=>?_)
    ·have h11:(nd ns p.toNat).n=(0:Int):=h11
     rw [h11,show ((0:Int) != 0)=false from rfl,Bool.false_and,Bool.and_false] at hk
     conv=>whnf
     exact hr _ _ rfl hk
    have h11:(nd ns p.toNat).n≠(0:Int):=h11
    rw [bne_iff_ne.2 h11,Bool.true_and] at hk
    conv=>whnf
    refine⟨ns,root,_,i,_,kd,rfl,rfl,rt,hi,hkd2,?_⟩
    conv=>whnf
    refine two_ne (fun h12=>?_) (fun h12=>?_)
    ·have h12:kd≠(nd ns p.toNat).n:=h12
     rw [beq_eq_false_iff_ne.2 h12,Bool.and_false] at hk
     conv=>whnf
     exact hr _ _ rfl hk
    have h12:kd=(nd ns p.toNat).n:=h12
    rw [beq_iff_eq.2 h12,Bool.and_true] at hk
    conv=>whnf
    refine loop_up (ι:=Nat) [2,5,9] (fun j=>[(11,intV j)]) (fun _=>[]) (fun j=>j≤List.length ps∧fitS ns root ((nd ns i).kids.tail.drop j) (List.drop j ps)=fitS ns root (nd ns i).kids.tail ps) (fun j=>List.length ps - j) 0 ⟨AV.le_refl _,trivial⟩ (trivial) ⟨Nat.zero_le _,by simp⟩ ?_
    rintro Y hle j ⟨hj,hfe⟩ ih
    conv=>whnf
    refine two_dec (fun h9=>?_) (fun h9=>?_)
    ·have h9:j<List.length ps:=by have h9:(j:Int)<(List.length ps:Int):=h9;omega
     have h9':(j:Int)<(List.length ps:Int):=by omega
     skip
     have hw1:=wzz (i:=j) (by omega)
     have hw1':IntKind.i64.wrap ((j:Int)+1)=((j+1:Nat):Int):=hw1
     have hj1:j+1<(nd ns i).kids.length:=by omega
     have hx0:0≤IntKind.i64.wrap ((j:Int)+1):=by rw [hw1];omega
     have hx1:IntKind.i64.wrap ((j:Int)+1)<((nd ns i).kids.length:Int):=by rw [hw1];omega
     have hqj:=hin _ (getD_mem hj1)
     rw [fit_drop h9 htl] at hfe
     have etl:(nd ns i).kids.tail.getD j 0=(nd ns i).kids.getD (j+1) 0:=by cases (nd ns i).kids <;> rfl
     rw [etl] at hfe
     obtain⟨ty,hty⟩:∃ ty,tyS ns root ((nd ns i).kids.getD (j+1) 0).toNat=ty:=⟨_,rfl⟩
     rw [hty] at hfe
     have hqe:(nd ns i).kids.getD (IntKind.i64.wrap ((j:Int)+1)).toNat 0=((((nd ns i).kids.getD (j+1) 0).toNat:Nat):Int):=by rw [hw1,Int.toNat_natCast];omega
     conv=>whnf
     refine⟨⟨hx0,hx1,rfl⟩,?_⟩
     conv=>whnf
     (refine⟨⟨by omega,h9',rfl⟩,?_⟩;(conv=>whnf))
     refine⟨ns,root,_,((nd ns i).kids.getD (j+1) 0).toNat,ty,rfl,hqe,rt,by omega,hty,?_⟩
     conv=>whnf
     repeat ((refine And.intro ?_ ?_);(focus ((conv=>whnf);first|done|exact⟨⟨by omega,h9',rfl⟩,by conv=>whnf⟩|exact⟨⟨hx0,hx1,rfl⟩,by conv=>whnf⟩|exact⟨⟨rfl,rfl,by omega,h9',rfl⟩,by conv=>whnf⟩|exact⟨⟨rfl,rfl⟩,by conv=>whnf⟩));(conv=>whnf))
     refine two_ne (fun h10=>?_) (fun h10=>?_)
     ·have h10:ty≠List.getD ps j 0:=(fun h=>h) h10
      rw [beq_eq_false_iff_ne.2 h10,Bool.false_and] at hfe
      rw [← hfe] at hk
      conv=>whnf
      exact hr _ _ rfl hk
     ·have h10:ty=List.getD ps j 0:=(fun h=>h) h10
      rw [beq_iff_eq.2 h10,Bool.true_and] at hfe
      conv=>whnf
      refine hle _ _ (Le.env ?_ ?_) (ih (j+1) (by omega) ⟨by omega,hfe⟩)
      ·skip
       repeat' (first|exact trivial|((conv=>whnf);first|exact trivial|refine⟨AV.le_refl _,?_⟩|refine⟨ABlk.le_refl _,?_⟩|(refine And.intro (AV.le_of_eq ?_) ?_;focus ((first|exact congrArg intV hw1);done))|(refine And.intro (ABlk.le_of_eq ?_) ?_;focus ((first|exact congrArg intV hw1);done))|fail)|fail)
      ·skip
       repeat' (first|exact trivial|((conv=>whnf);first|exact trivial|refine⟨AV.le_refl _,?_⟩|refine⟨ABlk.le_refl _,?_⟩|(refine And.intro (AV.le_of_eq ?_) ?_;focus ((first|fail);done))|(refine And.intro (ABlk.le_of_eq ?_) ?_;focus ((first|fail);done))|fail)|fail)
    ·obtain rfl:j=List.length ps:=by have h9:¬ (j:Int)<(List.length ps:Int):=h9;omega
     rw [List.drop_of_length_le (by omega),List.drop_of_length_le (Nat.le_refl _)] at hfe
     have hfe:true=fitS ns root (nd ns i).kids.tail ps:=hfe
     rw [← hfe] at hk
     conv=>whnf
     exact hr _ _ rfl hk
   ·have h8:(nd ns i).tx=[]:=h8
    rw [beq_iff_eq.2 h8,Bool.true_or,Bool.and_true] at hk
    conv=>whnf
    refine loop_up (ι:=Nat) [2,5,9] (fun j=>[(11,intV j)]) (fun _=>[]) (fun j=>j≤List.length ps∧fitS ns root ((nd ns i).kids.tail.drop j) (List.drop j ps)=fitS ns root (nd ns i).kids.tail ps) (fun j=>List.length ps - j) 0 ⟨AV.le_refl _,trivial⟩ (trivial) ⟨Nat.zero_le _,by simp⟩ ?_
    rintro Y hle j ⟨hj,hfe⟩ ih
    conv=>whnf
    refine two_dec (fun h9=>?_) (fun h9=>?_)
    ·have h9:j<List.length ps:=by have h9:(j:Int)<(List.length ps:Int):=h9;omega
     have h9':(j:Int)<(List.length ps:Int):=by omega
     skip
     have hw1:=wzz (i:=j) (by omega)
     have hw1':IntKind.i64.wrap ((j:Int)+1)=((j+1:Nat):Int):=hw1
     have hj1:j+1<(nd ns i).kids.length:=by omega
     have hx0:0≤IntKind.i64.wrap ((j:Int)+1):=by rw [hw1];omega
     have hx1:IntKind.i64.wrap ((j:Int)+1)<((nd ns i).kids.length:Int):=by rw [hw1];omega
     have hqj:=hin _ (getD_mem hj1)
     rw [fit_drop h9 htl] at hfe
     have etl:(nd ns i).kids.tail.getD j 0=(nd ns i).kids.getD (j+1) 0:=by cases (nd ns i).kids <;> rfl
     rw [etl] at hfe
     obtain⟨ty,hty⟩:∃ ty,tyS ns root ((nd ns i).kids.getD (j+1) 0).toNat=ty:=⟨_,rfl⟩
     rw [hty] at hfe
     have hqe:(nd ns i).kids.getD (IntKind.i64.wrap ((j:Int)+1)).toNat 0=((((nd ns i).kids.getD (j+1) 0).toNat:Nat):Int):=by rw [hw1,Int.toNat_natCast];omega
     conv=>whnf
     refine⟨⟨hx0,hx1,rfl⟩,?_⟩
     conv=>whnf
     (refine⟨⟨by omega,h9',rfl⟩,?_⟩;(conv=>whnf))
     refine⟨ns,root,_,((nd ns i).kids.getD (j+1) 0).toNat,ty,rfl,hqe,rt,by omega,hty,?_⟩
     conv=>whnf
     repeat ((refine And.intro ?_ ?_);(focus ((conv=>whnf);first|done|exact⟨⟨by omega,h9',rfl⟩,by conv=>whnf⟩|exact⟨⟨hx0,hx1,rfl⟩,by conv=>whnf⟩|exact⟨⟨rfl,rfl,by omega,h9',rfl⟩,by conv=>whnf⟩|exact⟨⟨rfl,rfl⟩,by conv=>whnf⟩));(conv=>whnf))
     refine two_ne (fun h10=>?_) (fun h10=>?_)
     ·have h10:ty≠List.getD ps j 0:=(fun h=>h) h10
      rw [beq_eq_false_iff_ne.2 h10,Bool.false_and] at hfe
      rw [← hfe] at hk
      conv=>whnf
      exact hr _ _ rfl hk
     ·have h10:ty=List.getD ps j 0:=(fun h=>h) h10
      rw [beq_iff_eq.2 h10,Bool.true_and] at hfe
      conv=>whnf
      refine hle _ _ (Le.env ?_ ?_) (ih (j+1) (by omega) ⟨by omega,hfe⟩)
      ·skip
       repeat' (first|exact trivial|((conv=>whnf);first|exact trivial|refine⟨AV.le_refl _,?_⟩|refine⟨ABlk.le_refl _,?_⟩|(refine And.intro (AV.le_of_eq ?_) ?_;focus ((first|exact congrArg intV hw1);done))|(refine And.intro (ABlk.le_of_eq ?_) ?_;focus ((first|exact congrArg intV hw1);done))|fail)|fail)
      ·skip
       repeat' (first|exact trivial|((conv=>whnf);first|exact trivial|refine⟨AV.le_refl _,?_⟩|refine⟨ABlk.le_refl _,?_⟩|(refine And.intro (AV.le_of_eq ?_) ?_;focus ((first|fail);done))|(refine And.intro (ABlk.le_of_eq ?_) ?_;focus ((first|fail);done))|fail)|fail)
    ·obtain rfl:j=List.length ps:=by have h9:¬ (j:Int)<(List.length ps:Int):=h9;omega
     rw [List.drop_of_length_le (by omega),List.drop_of_length_le (Nat.le_refl _)] at hfe
     have hfe:true=fitS ns root (nd ns i).kids.tail ps:=hfe
     rw [← hfe] at hk
     conv=>whnf
     exact hr _ _ rfl hk
 ·have hd1:¬ d<0:=hd1
  have hdr:=hdr.resolve_left (by omega)
  conv=>whnf
  refine two_ne (fun h3=>?_) (fun h3=>?_)
  ·have h3:(nd ns i).tx≠[]:=h3
   conv=>whnf
   refine⟨ns,root,_,i,_,e,rfl,rfl,rt,hi,he,?_⟩
   conv=>whnf
   refine two_dec (fun h4=>?_) (fun h4=>?_)
   ·have h4:e=-1:=by have h4:e<0:=h4;omega
    rw [if_pos (.inr ⟨h3,h4⟩)] at hk
    conv=>whnf
    exact hr _ _ rfl hk
   have h4:¬ e<0:=h4
   rw [if_neg (by rintro (⟨e1,_⟩|⟨e1,e2⟩);omega;omega),if_neg (by omega:¬ d=-1)] at hk
   conv=>whnf
   refine two_dec (fun h=>absurd h hd1) (fun _=>?_)
   conv=>whnf
   refine⟨⟨by omega,by omega,rfl⟩,?_⟩
   conv=>whnf
   refine two_ne (fun h5=>?_) (fun h5=>?_)
   ·have h5:(nd ns d.toNat).n≠4:=h5
    rw [if_pos h5] at hk
    conv=>whnf
    exact hr _ _ rfl hk
   have h5:(nd ns d.toNat).n=4:=h5
   rw [if_neg (fun e=>e h5)] at hk
   have hk:k (.ret (intV (toldS (fitS ns root (nd ns i).kids.tail [1]&&((nd ns i).tx==[] || ((1:Int) != 0&&kd==1)))))) K:=hk
   have hlb:List.length ([1]:List Int)<100000:=by decide
   conv=>whnf
   refine two_ne (fun h7=>?_) (fun h7=>?_)
   ·have h7:((nd ns i).kids.length:Int)≠IntKind.i64.wrap ((List.length ([1]:List Int):Int)+1):=h7
    have hf:fitS ns root (nd ns i).kids.tail ([1]:List Int)=false:=by
     rw [← Bool.not_eq_true];intro e;have:=fit_len _ _ e;rw [List.length_tail] at this;exact h7 (by rw [wzz (by omega)];omega)
    rw [hf] at hk
    conv=>whnf
    exact hr _ _ rfl hk
   have h7:(nd ns i).kids.length=List.length ([1]:List Int)+1:=by
    have h7:((nd ns i).kids.length:Int)=IntKind.i64.wrap ((List.length ([1]:List Int):Int)+1):=h7
    rw [wzz (by omega)] at h7;omega
   have htl:(nd ns i).kids.tail.length=List.length ([1]:List Int):=by rw [List.length_tail];omega
   conv=>whnf
   refine two_ne (fun h8=>?_) (fun h8=>?_)
   ·have h8:(nd ns i).tx≠[]:=h8
    rw [beq_eq_false_iff_ne.2 h8,Bool.false_or] at hk
    rw [show ((1:Int) != 0)=true from rfl,Bool.true_and] at hk
    conv=>whnf
    refine⟨ns,root,_,i,_,kd,rfl,rfl,rt,hi,hkd2,?_⟩
    conv=>whnf
    refine two_ne (fun h12=>?_) (fun h12=>?_)
    ·have h12:kd≠(1:Int):=h12
     rw [beq_eq_false_iff_ne.2 h12,Bool.and_false] at hk
     conv=>whnf
     exact hr _ _ rfl hk
    have h12:kd=(1:Int):=h12
    rw [beq_iff_eq.2 h12,Bool.and_true] at hk
    conv=>whnf
    refine loop_up (ι:=Nat) [2,5,9] (fun j=>[(11,intV j)]) (fun _=>[(2,.arr 3 1 0 1 fun _=>[intV 1])]) (fun j=>j≤List.length ([1]:List Int)∧fitS ns root ((nd ns i).kids.tail.drop j) (List.drop j ([1]:List Int))=fitS ns root (nd ns i).kids.tail ([1]:List Int)) (fun j=>List.length ([1]:List Int) - j) 0 ⟨AV.le_refl _,trivial⟩ (⟨upLe1 rfl (ABlk.arr_eq rfl fun i hi=>by obtain rfl:i=0:=(by omega);rfl),trivial⟩) ⟨Nat.zero_le _,by simp⟩ ?_
    rintro Y hle j ⟨hj,hfe⟩ ih
    conv=>whnf
    refine two_dec (fun h9=>?_) (fun h9=>?_)
    ·have h9:j<List.length ([1]:List Int):=by have h9:(j:Int)<(List.length ([1]:List Int):Int):=h9;omega
     have h9':(j:Int)<(List.length ([1]:List Int):Int):=by omega
     have eg:List.getD ([1]:List Int) j 0=1:=by (obtain rfl:j=0:=by (have h9:j<1:=h9;omega));rfl
     have hw1:=wzz (i:=j) (by omega)
     have hw1':IntKind.i64.wrap ((j:Int)+1)=((j+1:Nat):Int):=hw1
     have hj1:j+1<(nd ns i).kids.length:=by omega
     have hx0:0≤IntKind.i64.wrap ((j:Int)+1):=by rw [hw1];omega
     have hx1:IntKind.i64.wrap ((j:Int)+1)<((nd ns i).kids.length:Int):=by rw [hw1];omega
     have hqj:=hin _ (getD_mem hj1)
     rw [fit_drop h9 htl] at hfe
     have etl:(nd ns i).kids.tail.getD j 0=(nd ns i).kids.getD (j+1) 0:=by cases (nd ns i).kids <;> rfl
     rw [etl] at hfe
     obtain⟨ty,hty⟩:∃ ty,tyS ns root ((nd ns i).kids.getD (j+1) 0).toNat=ty:=⟨_,rfl⟩
     rw [hty] at hfe
     have hqe:(nd ns i).kids.getD (IntKind.i64.wrap ((j:Int)+1)).toNat 0=((((nd ns i).kids.getD (j+1) 0).toNat:Nat):Int):=by rw [hw1,Int.toNat_natCast];omega
     conv=>whnf
     refine⟨⟨hx0,hx1,rfl⟩,?_⟩
     conv=>whnf
     (refine⟨⟨rfl,rfl,by omega,h9',rfl⟩,?_⟩;(conv=>whnf);refine⟨⟨rfl,rfl⟩,?_⟩;(conv=>whnf))
     refine⟨ns,root,_,((nd ns i).kids.getD (j+1) 0).toNat,ty,rfl,hqe,rt,by omega,hty,?_⟩
     conv=>whnf
     repeat ((refine And.intro ?_ ?_);(focus ((conv=>whnf);first|done|exact⟨⟨by omega,h9',rfl⟩,by conv=>whnf⟩|exact⟨⟨hx0,hx1,rfl⟩,by conv=>whnf⟩|exact⟨⟨rfl,rfl,by omega,h9',rfl⟩,by conv=>whnf⟩|exact⟨⟨rfl,rfl⟩,by conv=>whnf⟩));(conv=>whnf))
     refine two_ne (fun h10=>?_) (fun h10=>?_)
     ·have h10:ty≠List.getD ([1]:List Int) j 0:=(fun h=>by rw [eg];exact h) h10
      rw [beq_eq_false_iff_ne.2 h10,Bool.false_and] at hfe
      rw [← hfe] at hk
      conv=>whnf
      exact hr _ _ rfl hk
     ·have h10:ty=List.getD ([1]:List Int) j 0:=(fun h=>by rw [eg];exact h) h10
      rw [beq_iff_eq.2 h10,Bool.true_and] at hfe
      conv=>whnf
      refine hle _ _ (Le.env ?_ ?_) (ih (j+1) (by omega) ⟨by omega,hfe⟩)
      ·skip
       repeat' (first|exact trivial|((conv=>whnf);first|exact trivial|refine⟨AV.le_refl _,?_⟩|refine⟨ABlk.le_refl _,?_⟩|(refine And.intro (AV.le_of_eq ?_) ?_;focus ((first|exact congrArg intV hw1);done))|(refine And.intro (ABlk.le_of_eq ?_) ?_;focus ((first|exact congrArg intV hw1);done))|fail)|fail)
      ·skip
       repeat' (first|exact trivial|((conv=>whnf);first|exact trivial|refine⟨AV.le_refl _,?_⟩|refine⟨ABlk.le_refl _,?_⟩|(refine And.intro (AV.le_of_eq ?_) ?_;focus ((first|fail);done))|(refine And.intro (ABlk.le_of_eq ?_) ?_;focus ((first|fail);done))|fail)|fail)
    ·obtain rfl:j=List.length ([1]:List Int):=by have h9:¬ (j:Int)<(List.length ([1]:List Int):Int):=h9;omega
     rw [List.drop_of_length_le (by omega),List.drop_of_length_le (Nat.le_refl _)] at hfe
     have hfe:true=fitS ns root (nd ns i).kids.tail ([1]:List Int):=hfe
     rw [← hfe] at hk
     conv=>whnf
     exact hr _ _ rfl hk
   ·have h8:(nd ns i).tx=[]:=h8
    rw [beq_iff_eq.2 h8,Bool.true_or,Bool.and_true] at hk
    conv=>whnf
    refine loop_up (ι:=Nat) [2,5,9] (fun j=>[(11,intV j)]) (fun _=>[(2,.arr 3 1 0 1 fun _=>[intV 1])]) (fun j=>j≤List.length ([1]:List Int)∧fitS ns root ((nd ns i).kids.tail.drop j) (List.drop j ([1]:List Int))=fitS ns root (nd ns i).kids.tail ([1]:List Int)) (fun j=>List.length ([1]:List Int) - j) 0 ⟨AV.le_refl _,trivial⟩ (⟨upLe1 rfl (ABlk.arr_eq rfl fun i hi=>by obtain rfl:i=0:=(by omega);rfl),trivial⟩) ⟨Nat.zero_le _,by simp⟩ ?_
    rintro Y hle j ⟨hj,hfe⟩ ih
    conv=>whnf
    refine two_dec (fun h9=>?_) (fun h9=>?_)
    ·have h9:j<List.length ([1]:List Int):=by have h9:(j:Int)<(List.length ([1]:List Int):Int):=h9;omega
     have h9':(j:Int)<(List.length ([1]:List Int):Int):=by omega
     have eg:List.getD ([1]:List Int) j 0=1:=by (obtain rfl:j=0:=by (have h9:j<1:=h9;omega));rfl
     have hw1:=wzz (i:=j) (by omega)
     have hw1':IntKind.i64.wrap ((j:Int)+1)=((j+1:Nat):Int):=hw1
     have hj1:j+1<(nd ns i).kids.length:=by omega
     have hx0:0≤IntKind.i64.wrap ((j:Int)+1):=by rw [hw1];omega
     have hx1:IntKind.i64.wrap ((j:Int)+1)<((nd ns i).kids.length:Int):=by rw [hw1];omega
     have hqj:=hin _ (getD_mem hj1)
     rw [fit_drop h9 htl] at hfe
     have etl:(nd ns i).kids.tail.getD j 0=(nd ns i).kids.getD (j+1) 0:=by cases (nd ns i).kids <;> rfl
     rw [etl] at hfe
     obtain⟨ty,hty⟩:∃ ty,tyS ns root ((nd ns i).kids.getD (j+1) 0).toNat=ty:=⟨_,rfl⟩
     rw [hty] at hfe
     have hqe:(nd ns i).kids.getD (IntKind.i64.wrap ((j:Int)+1)).toNat 0=((((nd ns i).kids.getD (j+1) 0).toNat:Nat):Int):=by rw [hw1,Int.toNat_natCast];omega
     conv=>whnf
     refine⟨⟨hx0,hx1,rfl⟩,?_⟩
     conv=>whnf
     (refine⟨⟨rfl,rfl,by omega,h9',rfl⟩,?_⟩;(conv=>whnf);refine⟨⟨rfl,rfl⟩,?_⟩;(conv=>whnf))
     refine⟨ns,root,_,((nd ns i).kids.getD (j+1) 0).toNat,ty,rfl,hqe,rt,by omega,hty,?_⟩
     conv=>whnf
     repeat ((refine And.intro ?_ ?_);(focus ((conv=>whnf);first|done|exact⟨⟨by omega,h9',rfl⟩,by conv=>whnf⟩|exact⟨⟨hx0,hx1,rfl⟩,by conv=>whnf⟩|exact⟨⟨rfl,rfl,by omega,h9',rfl⟩,by conv=>whnf⟩|exact⟨⟨rfl,rfl⟩,by conv=>whnf⟩));(conv=>whnf))
     refine two_ne (fun h10=>?_) (fun h10=>?_)
     ·have h10:ty≠List.getD ([1]:List Int) j 0:=(fun h=>by rw [eg];exact h) h10
      rw [beq_eq_false_iff_ne.2 h10,Bool.false_and] at hfe
      rw [← hfe] at hk
      conv=>whnf
      exact hr _ _ rfl hk
     ·have h10:ty=List.getD ([1]:List Int) j 0:=(fun h=>by rw [eg];exact h) h10
      rw [beq_iff_eq.2 h10,Bool.true_and] at hfe
      conv=>whnf
      refine hle _ _ (Le.env ?_ ?_) (ih (j+1) (by omega) ⟨by omega,hfe⟩)
      ·skip
       repeat' (first|exact trivial|((conv=>whnf);first|exact trivial|refine⟨AV.le_refl _,?_⟩|refine⟨ABlk.le_refl _,?_⟩|(refine And.intro (AV.le_of_eq ?_) ?_;focus ((first|exact congrArg intV hw1);done))|(refine And.intro (ABlk.le_of_eq ?_) ?_;focus ((first|exact congrArg intV hw1);done))|fail)|fail)
      ·skip
       repeat' (first|exact trivial|((conv=>whnf);first|exact trivial|refine⟨AV.le_refl _,?_⟩|refine⟨ABlk.le_refl _,?_⟩|(refine And.intro (AV.le_of_eq ?_) ?_;focus ((first|fail);done))|(refine And.intro (ABlk.le_of_eq ?_) ?_;focus ((first|fail);done))|fail)|fail)
    ·obtain rfl:j=List.length ([1]:List Int):=by have h9:¬ (j:Int)<(List.length ([1]:List Int):Int):=h9;omega
     rw [List.drop_of_length_le (by omega),List.drop_of_length_le (Nat.le_refl _)] at hfe
     have hfe:true=fitS ns root (nd ns i).kids.tail ([1]:List Int):=hfe
     rw [← hfe] at hk
     conv=>whnf
     exact hr _ _ rfl hk
  ·have h3:(nd ns i).tx=[]:=h3
   rw [if_neg (by rintro (⟨e1,_⟩|⟨e1,e2⟩);omega;exact e1 h3),if_neg (by omega:¬ d=-1)] at hk
   conv=>whnf
   refine two_dec (fun h=>absurd h hd1) (fun _=>?_)
   conv=>whnf
   refine⟨⟨by omega,by omega,rfl⟩,?_⟩
   conv=>whnf
   refine two_ne (fun h5=>?_) (fun h5=>?_)
   ·have h5:(nd ns d.toNat).n≠4:=h5
    rw [if_pos h5] at hk
    conv=>whnf
    exact hr _ _ rfl hk
   have h5:(nd ns d.toNat).n=4:=h5
   rw [if_neg (fun e=>e h5)] at hk
   have hk:k (.ret (intV (toldS (fitS ns root (nd ns i).kids.tail [1]&&((nd ns i).tx==[] || ((1:Int) != 0&&kd==1)))))) K:=hk
   have hlb:List.length ([1]:List Int)<100000:=by decide
   conv=>whnf
   refine two_ne (fun h7=>?_) (fun h7=>?_)
   ·have h7:((nd ns i).kids.length:Int)≠IntKind.i64.wrap ((List.length ([1]:List Int):Int)+1):=h7
    have hf:fitS ns root (nd ns i).kids.tail ([1]:List Int)=false:=by
     rw [← Bool.not_eq_true];intro e;have:=fit_len _ _ e;rw [List.length_tail] at this;exact h7 (by rw [wzz (by omega)];omega)
    rw [hf] at hk
    conv=>whnf
    exact hr _ _ rfl hk
   have h7:(nd ns i).kids.length=List.length ([1]:List Int)+1:=by
    have h7:((nd ns i).kids.length:Int)=IntKind.i64.wrap ((List.length ([1]:List Int):Int)+1):=h7
    rw [wzz (by omega)] at h7;omega
   have htl:(nd ns i).kids.tail.length=List.length ([1]:List Int):=by rw [List.length_tail];omega
   conv=>whnf
   refine two_ne (fun h8=>?_) (fun h8=>?_)
   ·have h8:(nd ns i).tx≠[]:=h8
    rw [beq_eq_false_iff_ne.2 h8,Bool.false_or] at hk
    rw [show ((1:Int) != 0)=true from rfl,Bool.true_and] at hk
    conv=>whnf
    refine⟨ns,root,_,i,_,kd,rfl,rfl,rt,hi,hkd2,?_⟩
    conv=>whnf
    refine two_ne (fun h12=>?_) (fun h12=>?_)
    ·have h12:kd≠(1:Int):=h12
     rw [beq_eq_false_iff_ne.2 h12,Bool.and_false] at hk
     conv=>whnf
     exact hr _ _ rfl hk
    have h12:kd=(1:Int):=h12
    rw [beq_iff_eq.2 h12,Bool.and_true] at hk
    conv=>whnf
    refine loop_up (ι:=Nat) [2,5,9] (fun j=>[(11,intV j)]) (fun _=>[(2,.arr 3 1 0 1 fun _=>[intV 1])]) (fun j=>j≤List.length ([1]:List Int)∧fitS ns root ((nd ns i).kids.tail.drop j) (List.drop j ([1]:List Int))=fitS ns root (nd ns i).kids.tail ([1]:List Int)) (fun j=>List.length ([1]:List Int) - j) 0 ⟨AV.le_refl _,trivial⟩ (⟨upLe1 rfl (ABlk.arr_eq rfl fun i hi=>by obtain rfl:i=0:=(by omega);rfl),trivial⟩) ⟨Nat.zero_le _,by simp⟩ ?_
    rintro Y hle j ⟨hj,hfe⟩ ih
    conv=>whnf
    refine two_dec (fun h9=>?_) (fun h9=>?_)
    ·have h9:j<List.length ([1]:List Int):=by have h9:(j:Int)<(List.length ([1]:List Int):Int):=h9;omega
     have h9':(j:Int)<(List.length ([1]:List Int):Int):=by omega
     have eg:List.getD ([1]:List Int) j 0=1:=by (obtain rfl:j=0:=by (have h9:j<1:=h9;omega));rfl
     have hw1:=wzz (i:=j) (by omega)
     have hw1':IntKind.i64.wrap ((j:Int)+1)=((j+1:Nat):Int):=hw1
     have hj1:j+1<(nd ns i).kids.length:=by omega
     have hx0:0≤IntKind.i64.wrap ((j:Int)+1):=by rw [hw1];omega
     have hx1:IntKind.i64.wrap ((j:Int)+1)<((nd ns i).kids.length:Int):=by rw [hw1];omega
     have hqj:=hin _ (getD_mem hj1)
     rw [fit_drop h9 htl] at hfe
     have etl:(nd ns i).kids.tail.getD j 0=(nd ns i).kids.getD (j+1) 0:=by cases (nd ns i).kids <;> rfl
     rw [etl] at hfe
     obtain⟨ty,hty⟩:∃ ty,tyS ns root ((nd ns i).kids.getD (j+1) 0).toNat=ty:=⟨_,rfl⟩
     rw [hty] at hfe
     have hqe:(nd ns i).kids.getD (IntKind.i64.wrap ((j:Int)+1)).toNat 0=((((nd ns i).kids.getD (j+1) 0).toNat:Nat):Int):=by rw [hw1,Int.toNat_natCast];omega
     conv=>whnf
     refine⟨⟨hx0,hx1,rfl⟩,?_⟩
     conv=>whnf
     (refine⟨⟨rfl,rfl,by omega,h9',rfl⟩,?_⟩;(conv=>whnf);refine⟨⟨rfl,rfl⟩,?_⟩;(conv=>whnf))
     refine⟨ns,root,_,((nd ns i).kids.getD (j+1) 0).toNat,ty,rfl,hqe,rt,by omega,hty,?_⟩
     conv=>whnf
     repeat ((refine And.intro ?_ ?_);(focus ((conv=>whnf);first|done|exact⟨⟨by omega,h9',rfl⟩,by conv=>whnf⟩|exact⟨⟨hx0,hx1,rfl⟩,by conv=>whnf⟩|exact⟨⟨rfl,rfl,by omega,h9',rfl⟩,by conv=>whnf⟩|exact⟨⟨rfl,rfl⟩,by conv=>whnf⟩));(conv=>whnf))
     refine two_ne (fun h10=>?_) (fun h10=>?_)
     ·have h10:ty≠List.getD ([1]:List Int) j 0:=(fun h=>by rw [eg];exact h) h10
      rw [beq_eq_false_iff_ne.2 h10,Bool.false_and] at hfe
      rw [← hfe] at hk
      conv=>whnf
      exact hr _ _ rfl hk
     ·have h10:ty=List.getD ([1]:List Int) j 0:=(fun h=>by rw [eg];exact h) h10
      rw [beq_iff_eq.2 h10,Bool.true_and] at hfe
      conv=>whnf
      refine hle _ _ (Le.env ?_ ?_) (ih (j+1) (by omega) ⟨by omega,hfe⟩)
      ·skip
       repeat' (first|exact trivial|((conv=>whnf);first|exact trivial|refine⟨AV.le_refl _,?_⟩|refine⟨ABlk.le_refl _,?_⟩|(refine And.intro (AV.le_of_eq ?_) ?_;focus ((first|exact congrArg intV hw1);done))|(refine And.intro (ABlk.le_of_eq ?_) ?_;focus ((first|exact congrArg intV hw1);done))|fail)|fail)
      ·skip
       repeat' (first|exact trivial|((conv=>whnf);first|exact trivial|refine⟨AV.le_refl _,?_⟩|refine⟨ABlk.le_refl _,?_⟩|(refine And.intro (AV.le_of_eq ?_) ?_;focus ((first|fail);done))|(refine And.intro (ABlk.le_of_eq ?_) ?_;focus ((first|fail);done))|fail)|fail)
    ·obtain rfl:j=List.length ([1]:List Int):=by have h9:¬ (j:Int)<(List.length ([1]:List Int):Int):=h9;omega
     rw [List.drop_of_length_le (by omega),List.drop_of_length_le (Nat.le_refl _)] at hfe
     have hfe:true=fitS ns root (nd ns i).kids.tail ([1]:List Int):=hfe
     rw [← hfe] at hk
     conv=>whnf
     exact hr _ _ rfl hk
   ·have h8:(nd ns i).tx=[]:=h8
    rw [beq_iff_eq.2 h8,Bool.true_or,Bool.and_true] at hk
    conv=>whnf
    refine loop_up (ι:=Nat) [2,5,9] (fun j=>[(11,intV j)]) (fun _=>[(2,.arr 3 1 0 1 fun _=>[intV 1])]) (fun j=>j≤List.length ([1]:List Int)∧fitS ns root ((nd ns i).kids.tail.drop j) (List.drop j ([1]:List Int))=fitS ns root (nd ns i).kids.tail ([1]:List Int)) (fun j=>List.length ([1]:List Int) - j) 0 ⟨AV.le_refl _,trivial⟩ (⟨upLe1 rfl (ABlk.arr_eq rfl fun i hi=>by obtain rfl:i=0:=(by omega);rfl),trivial⟩) ⟨Nat.zero_le _,by simp⟩ ?_
    rintro Y hle j ⟨hj,hfe⟩ ih
    conv=>whnf
    refine two_dec (fun h9=>?_) (fun h9=>?_)
    ·have h9:j<List.length ([1]:List Int):=by have h9:(j:Int)<(List.length ([1]:List Int):Int):=h9;omega
     have h9':(j:Int)<(List.length ([1]:List Int):Int):=by omega
     have eg:List.getD ([1]:List Int) j 0=1:=by (obtain rfl:j=0:=by (have h9:j<1:=h9;omega));rfl
     have hw1:=wzz (i:=j) (by omega)
     have hw1':IntKind.i64.wrap ((j:Int)+1)=((j+1:Nat):Int):=hw1
     have hj1:j+1<(nd ns i).kids.length:=by omega
     have hx0:0≤IntKind.i64.wrap ((j:Int)+1):=by rw [hw1];omega
     have hx1:IntKind.i64.wrap ((j:Int)+1)<((nd ns i).kids.length:Int):=by rw [hw1];omega
     have hqj:=hin _ (getD_mem hj1)
     rw [fit_drop h9 htl] at hfe
     have etl:(nd ns i).kids.tail.getD j 0=(nd ns i).kids.getD (j+1) 0:=by cases (nd ns i).kids <;> rfl
     rw [etl] at hfe
     obtain⟨ty,hty⟩:∃ ty,tyS ns root ((nd ns i).kids.getD (j+1) 0).toNat=ty:=⟨_,rfl⟩
     rw [hty] at hfe
     have hqe:(nd ns i).kids.getD (IntKind.i64.wrap ((j:Int)+1)).toNat 0=((((nd ns i).kids.getD (j+1) 0).toNat:Nat):Int):=by rw [hw1,Int.toNat_natCast];omega
     conv=>whnf
     refine⟨⟨hx0,hx1,rfl⟩,?_⟩
     conv=>whnf
     (refine⟨⟨rfl,rfl,by omega,h9',rfl⟩,?_⟩;(conv=>whnf);refine⟨⟨rfl,rfl⟩,?_⟩;(conv=>whnf))
     refine⟨ns,root,_,((nd ns i).kids.getD (j+1) 0).toNat,ty,rfl,hqe,rt,by omega,hty,?_⟩
     conv=>whnf
     repeat ((refine And.intro ?_ ?_);(focus ((conv=>whnf);first|done|exact⟨⟨by omega,h9',rfl⟩,by conv=>whnf⟩|exact⟨⟨hx0,hx1,rfl⟩,by conv=>whnf⟩|exact⟨⟨rfl,rfl,by omega,h9',rfl⟩,by conv=>whnf⟩|exact⟨⟨rfl,rfl⟩,by conv=>whnf⟩));(conv=>whnf))
     refine two_ne (fun h10=>?_) (fun h10=>?_)
     ·have h10:ty≠List.getD ([1]:List Int) j 0:=(fun h=>by rw [eg];exact h) h10
      rw [beq_eq_false_iff_ne.2 h10,Bool.false_and] at hfe
      rw [← hfe] at hk
      conv=>whnf
      exact hr _ _ rfl hk
     ·have h10:ty=List.getD ([1]:List Int) j 0:=(fun h=>by rw [eg];exact h) h10
      rw [beq_iff_eq.2 h10,Bool.true_and] at hfe
      conv=>whnf
      refine hle _ _ (Le.env ?_ ?_) (ih (j+1) (by omega) ⟨by omega,hfe⟩)
      ·skip
       repeat' (first|exact trivial|((conv=>whnf);first|exact trivial|refine⟨AV.le_refl _,?_⟩|refine⟨ABlk.le_refl _,?_⟩|(refine And.intro (AV.le_of_eq ?_) ?_;focus ((first|exact congrArg intV hw1);done))|(refine And.intro (ABlk.le_of_eq ?_) ?_;focus ((first|exact congrArg intV hw1);done))|fail)|fail)
      ·skip
       repeat' (first|exact trivial|((conv=>whnf);first|exact trivial|refine⟨AV.le_refl _,?_⟩|refine⟨ABlk.le_refl _,?_⟩|(refine And.intro (AV.le_of_eq ?_) ?_;focus ((first|fail);done))|(refine And.intro (ABlk.le_of_eq ?_) ?_;focus ((first|fail);done))|fail)|fail)
    ·obtain rfl:j=List.length ([1]:List Int):=by have h9:¬ (j:Int)<(List.length ([1]:List Int):Int):=h9;omega
     rw [List.drop_of_length_le (by omega),List.drop_of_length_le (Nat.le_refl _)] at hfe
     have hfe:true=fitS ns root (nd ns i).kids.tail ([1]:List Int):=hfe
     rw [← hfe] at hk
     conv=>whnf
     exact hr _ _ rfl hk
end Go.Proofs.YtojjkleplnijaaaGreatDoor
namespace Go.Ru
section
variable {ns:List Nd} {root:Int} {i:Nat}
theorem wr2 (h:(nd ns i).k=2):wrongR ns root i=if twiceR ns root i then 4 else 0:=by simp [wrongR,h]
theorem wr3 (h:(nd ns i).k=3):wrongR ns root i=if twiceR ns root i then 4 else 0:=by simp [wrongR,h]
theorem wr4 (h:(nd ns i).k=4):wrongR ns root i=if twiceR ns root i then 4 else 0:=by simp [wrongR,h]
theorem wr5 (h:(nd ns i).k=5):wrongR ns root i=if twiceR ns root i then 4 else 0:=by simp [wrongR,h]
theorem wr22 (h:(nd ns i).k=22):wrongR ns root i=namedR ns root i 0 true:=by simp [wrongR,h]
theorem wr23 (h:(nd ns i).k=23):wrongR ns root i=namedR ns root i 3 (allS ns root (nd ns i).kids 1):=by simp [wrongR,h]
theorem wr8 (h:(nd ns i).k=8):wrongR ns root i=namedR ns root i 3 (allS ns root (nd ns i).kids 1):=by simp [wrongR,h]
theorem wr17 (h:(nd ns i).k=17):wrongR ns root i=namedR ns root i 3 (allS ns root (nd ns i).kids 1):=by simp [wrongR,h]
theorem wr24 (h:(nd ns i).k=24):wrongR ns root i=namedR ns root i 3 true:=by simp [wrongR,h]
theorem wr9 (h:(nd ns i).k=9):wrongR ns root i=namedR ns root i 1 true:=by simp [wrongR,h]
theorem wr16 (h:(nd ns i).k=16):wrongR ns root i=namedR ns root i 1 true:=by simp [wrongR,h]
theorem wr25 (h:(nd ns i).k=25):wrongR ns root i=if procI ns (nd ns i).tx<0 then 3 else toldS (tplainS ns (procI ns (nd ns i).tx).toNat):=by simp [wrongR,h]
theorem wr26 (h:(nd ns i).k=26):wrongR ns root i=toldS (operR ns root (nd ns i)):=by simp [wrongR,h]
theorem wr27 (h:(nd ns i).k=27):wrongR ns root i=toldS (operR ns root (nd ns i)):=by simp [wrongR,h]
theorem wr7 (h:(nd ns i).k=7):wrongR ns root i=namedR ns root i (tyS ns root ((nd ns i).kids.getD 0 0).toNat) true:=by simp [wrongR,h]
theorem wr10 (h:(nd ns i).k=10):wrongR ns root i=toldS (tyS ns root ((nd ns i).kids.getD 1 0).toNat==1):=by simp [wrongR,h]
theorem wr15 (h:(nd ns i).k=15):wrongR ns root i=toldS (tyS ns root ((nd ns i).kids.getD 0 0).toNat==1):=by simp [wrongR,h]
theorem wr11 (h:(nd ns i).k=11):wrongR ns root i=toldS (tyS ns root ((nd ns i).kids.getD 0 0).toNat==2):=by simp [wrongR,h]
theorem wr12 (h:(nd ns i).k=12):wrongR ns root i=toldS (tyS ns root ((nd ns i).kids.getD 0 0).toNat==2):=by simp [wrongR,h]
theorem wr13 (h:(nd ns i).k=13):wrongR ns root i=tcallS ns root i (nd ns i):=by simp [wrongR,h]
theorem wr14 (h:(nd ns i).k=14):wrongR ns root i=toldS (retR ns root (nd ns i) (nd ns (own ns root i).toNat).n):=by simp [wrongR,h]
theorem wrD (h2:(nd ns i).k≠2) (h3:(nd ns i).k≠3) (h4:(nd ns i).k≠4) (h5:(nd ns i).k≠5) (h22:(nd ns i).k≠22) (h23:(nd ns i).k≠23) (h8:(nd ns i).k≠8) (h17:(nd ns i).k≠17) (h24:(nd ns i).k≠24) (h9:(nd ns i).k≠9) (h16:(nd ns i).k≠16) (h25:(nd ns i).k≠25) (h26:(nd ns i).k≠26) (h27:(nd ns i).k≠27) (h7:(nd ns i).k≠7) (h10:(nd ns i).k≠10) (h15:(nd ns i).k≠15) (h11:(nd ns i).k≠11) (h12:(nd ns i).k≠12) (h13:(nd ns i).k≠13) (h14:(nd ns i).k≠14):wrongR ns root i=0:=by simp [wrongR,h2,h3,h4,h5,h22,h23,h8,h17,h24,h9,h16,h25,h26,h27,h7,h10,h15,h11,h12,h13,h14]
end
end Go.Ru
namespace Go.Proofs.YtojjkleplnijaaaGreatDoor
open Go.AE Go.Ru
set_option maxRecDepth 100000
set_option maxHeartbeats 1000000
def gRw7:AG:=gput 107 cRtwice (gput 108 cRnamed (gput 51 cRof (gput 58 cRplain (gput 109 cRtold (gput 110 cRoper (gput 60 cRtyped (gput 111 cRcall (gput 54 cRown g0))))))))
theorem gRw7_ok:GOk Tryz.prog gRw7:=gput_ok rtwice_ok (gput_ok rnamed_ok (gput_ok rof_ok (gput_ok rplain_ok (gput_ok rtold_ok (gput_ok roper_ok (gput_ok rtyped_ok (gput_ok rcall_ok (gput_ok rown_ok g0_ok))))))))
def cRwrong:AC:=fun args K k=>∃ ns root i' i v,args=[treeV ns root,intV i']∧i'=((i:Nat):Int)∧RightT ns root∧i<ns.length∧wrongR ns root i=v∧k (.ret (intV v)) K
theorem rwrong_ok:COk 50 cRwrong:=by
 rintro args K k ⟨ns,root,_,i,v,rfl,rfl,rt,hi,rfl,hk⟩
 have hlen:=rt.len
 have hmany:=rt.many i hi
 have hin:=rt.inr hi
 have hrl:=rt.rlt
 have hrt:=rt.rt
 have hrn:root=(root.toNat:Int):=by omega
 have len2:((nd ns i).k=10∨(nd ns i).k=12)→(1:Int)<((nd ns i).kids.length:Int):=fun h=>by
  obtain⟨q,r,e⟩:=kids_two rt hi (by omega);rw [e];exact (by decide:(1:Int)<2)
 have len1:((nd ns i).k=7∨(nd ns i).k=15∨(nd ns i).k=11∨(nd ns i).k=12)→(0:Int)<((nd ns i).kids.length:Int):=fun h=>by
  rcases h with h|h|h|h
  ·obtain⟨q,e,_⟩:=kids_one rt hi (.inl h);rw [e];exact (by decide:(0:Int)<1)
  ·obtain⟨q,e,_⟩:=kids_one rt hi (.inr (.inr (.inl h)));rw [e];exact (by decide:(0:Int)<1)
  ·obtain⟨q,r,s,e⟩:=kids_if rt hi h;rw [e];exact (by decide:(0:Int)<3)
  ·have:=len2 (.inr h);omega
 obtain⟨b,hb⟩:∃ b,twiceR ns root i=b:=⟨_,rfl⟩
 obtain⟨bo,hbo⟩:∃ b,operR ns root (nd ns i)=b:=⟨_,rfl⟩
 obtain⟨p,hp⟩:∃ p,procI ns (nd ns i).tx=p:=⟨_,rfl⟩
 obtain⟨o,ho⟩:∃ o,own ns root i=o:=⟨_,rfl⟩
 obtain⟨t0,ht0⟩:∃ t,tyS ns root ((nd ns i).kids.getD 0 0).toNat=t:=⟨_,rfl⟩
 obtain⟨t1,ht1⟩:∃ t,tyS ns root ((nd ns i).kids.getD 1 0).toNat=t:=⟨_,rfl⟩
 refine frame0P gRw7_ok 19 rfl fun Q hr=>?_
 conv=>whnf
 refine⟨⟨by omega,by omega,rfl⟩,?_⟩
 conv=>whnf
 refine two_eq (fun h=>?_) (fun h=>?_)
 ·have h:(nd ns i).k=2:=h
  clear len1 len2
  rw [wr2 h,hb] at hk
  conv=>whnf
  refine⟨ns,root,_,i,b,rfl,rfl,rt,hi,hb,?_⟩
  cases b with
  | true =>
   conv=>whnf
   exact hr _ _ rfl hk
  | false =>
   conv=>whnf
   exact hr _ _ rfl hk
 have n2:(nd ns i).k≠2:=h
 conv=>whnf
 refine two_eq (fun h=>?_) (fun h=>?_)
 ·have h:(nd ns i).k=3:=h
  clear len1 len2
  clear n2
  rw [wr3 h,hb] at hk
  conv=>whnf
  refine⟨ns,root,_,i,b,rfl,rfl,rt,hi,hb,?_⟩
  cases b with
  | true =>
   conv=>whnf
   exact hr _ _ rfl hk
  | false =>
   conv=>whnf
   exact hr _ _ rfl hk
 have n3:(nd ns i).k≠3:=h
 conv=>whnf
 refine two_eq (fun h=>?_) (fun h=>?_)
 ·have h:(nd ns i).k=4:=h
  clear len1 len2
  clear n2 n3
  rw [wr4 h,hb] at hk
  conv=>whnf
  refine⟨ns,root,_,i,b,rfl,rfl,rt,hi,hb,?_⟩
  cases b with
  | true =>
   conv=>whnf
   exact hr _ _ rfl hk
  | false =>
   conv=>whnf
   exact hr _ _ rfl hk
 have n4:(nd ns i).k≠4:=h
 conv=>whnf
 refine two_eq (fun h=>?_) (fun h=>?_)
 ·have h:(nd ns i).k=5:=h
  clear len1 len2
  clear n2 n3 n4
  rw [wr5 h,hb] at hk
  conv=>whnf
  refine⟨ns,root,_,i,b,rfl,rfl,rt,hi,hb,?_⟩
  cases b with
  | true =>
   conv=>whnf
   exact hr _ _ rfl hk
  | false =>
   conv=>whnf
   exact hr _ _ rfl hk
 have n5:(nd ns i).k≠5:=h
 conv=>whnf
 refine two_eq (fun h=>?_) (fun h=>?_)
 ·have h:(nd ns i).k=22:=h
  clear len1 len2
  clear n2 n3 n4 n5
  rw [wr22 h] at hk
  conv=>whnf
  refine⟨ns,root,_,i,0,0,true,_,rfl,rfl,rt,hi,.inl ⟨rfl,rfl⟩,rfl,?_⟩
  conv=>whnf
  exact hr _ _ rfl hk
 have n22:(nd ns i).k≠22:=h
 conv=>whnf
 refine two_eq (fun h=>?_) (fun h=>?_)
 ·have h:(nd ns i).k=23:=h
  clear len1 len2
  clear n2 n3 n4 n5 n22
  rw [wr23 h] at hk
  conv=>whnf
  refine⟨ns,root,_,i,3,1,(allS ns root (nd ns i).kids 1),_,rfl,rfl,rt,hi,.inr ⟨by decide,rfl⟩,rfl,?_⟩
  conv=>whnf
  exact hr _ _ rfl hk
 have n23:(nd ns i).k≠23:=h
 conv=>whnf
 refine two_eq (fun h=>?_) (fun h=>?_)
 ·have h:(nd ns i).k=8:=h
  clear len1 len2
  clear n2 n3 n4 n5 n22 n23
  rw [wr8 h] at hk
  conv=>whnf
  refine⟨ns,root,_,i,3,1,(allS ns root (nd ns i).kids 1),_,rfl,rfl,rt,hi,.inr ⟨by decide,rfl⟩,rfl,?_⟩
  conv=>whnf
  exact hr _ _ rfl hk
 have n8:(nd ns i).k≠8:=h
 conv=>whnf
 refine two_eq (fun h=>?_) (fun h=>?_)
 ·have h:(nd ns i).k=17:=h
  clear len1 len2
  clear n2 n3 n4 n5 n22 n23 n8
  rw [wr17 h] at hk
  conv=>whnf
  refine⟨ns,root,_,i,3,1,(allS ns root (nd ns i).kids 1),_,rfl,rfl,rt,hi,.inr ⟨by decide,rfl⟩,rfl,?_⟩
  conv=>whnf
  exact hr _ _ rfl hk
 have n17:(nd ns i).k≠17:=h
 conv=>whnf
 refine two_eq (fun h=>?_) (fun h=>?_)
 ·have h:(nd ns i).k=24:=h
  clear len1 len2
  clear n2 n3 n4 n5 n22 n23 n8 n17
  rw [wr24 h] at hk
  conv=>whnf
  refine⟨ns,root,_,i,3,0,true,_,rfl,rfl,rt,hi,.inl ⟨rfl,rfl⟩,rfl,?_⟩
  conv=>whnf
  exact hr _ _ rfl hk
 have n24:(nd ns i).k≠24:=h
 conv=>whnf
 refine two_eq (fun h=>?_) (fun h=>?_)
 ·have h:(nd ns i).k=9:=h
  clear len1 len2
  clear n2 n3 n4 n5 n22 n23 n8 n17 n24
  rw [wr9 h] at hk
  conv=>whnf
  refine⟨ns,root,_,i,1,0,true,_,rfl,rfl,rt,hi,.inl ⟨rfl,rfl⟩,rfl,?_⟩
  conv=>whnf
  exact hr _ _ rfl hk
 have n9:(nd ns i).k≠9:=h
 conv=>whnf
 refine two_eq (fun h=>?_) (fun h=>?_)
 ·have h:(nd ns i).k=16:=h
  clear len1 len2
  clear n2 n3 n4 n5 n22 n23 n8 n17 n24 n9
  rw [wr16 h] at hk
  conv=>whnf
  refine⟨ns,root,_,i,1,0,true,_,rfl,rfl,rt,hi,.inl ⟨rfl,rfl⟩,rfl,?_⟩
  conv=>whnf
  exact hr _ _ rfl hk
 have n16:(nd ns i).k≠16:=h
 conv=>whnf
 refine two_eq (fun h=>?_) (fun h=>?_)
 ·have h:(nd ns i).k=25:=h
  clear len1 len2
  clear n2 n3 n4 n5 n22 n23 n8 n17 n24 n9 n16
  have hpr:=procI_range ns (nd ns i).tx
  rw [hp] at hpr
  rw [wr25 h,hp] at hk
  conv=>whnf
  refine⟨ns,root,_,root.toNat,3,3,_,p,rfl,hrn,rt,hrl,(of_proc rt _).trans hp,?_⟩
  conv=>whnf
  refine two_dec (fun hp1=>?_) (fun hp1=>?_)
  ·have hp1:p<0:=hp1
   rw [if_pos hp1] at hk
   conv=>whnf
   exact hr _ _ rfl hk
  have hp1:¬ p<0:=hp1
  rw [if_neg hp1] at hk
  conv=>whnf
  refine⟨ns,root,_,p.toNat,_,rfl,by omega,rt,by omega,rfl,?_⟩
  conv=>whnf
  refine⟨_,rfl,?_⟩
  conv=>whnf
  exact hr _ _ rfl hk
 have n25:(nd ns i).k≠25:=h
 conv=>whnf
 refine two_eq (fun h=>?_) (fun h=>?_)
 ·have h:(nd ns i).k=26:=h
  clear len1 len2
  clear n2 n3 n4 n5 n22 n23 n8 n17 n24 n9 n16 n25
  rw [wr26 h,hbo] at hk
  conv=>whnf
  refine⟨ns,root,i,bo,rfl,rt,hi,.inl h,hbo,?_⟩
  conv=>whnf
  refine⟨bo,rfl,?_⟩
  conv=>whnf
  exact hr _ _ rfl hk
 have n26:(nd ns i).k≠26:=h
 conv=>whnf
 refine two_eq (fun h=>?_) (fun h=>?_)
 ·have h:(nd ns i).k=27:=h
  clear len1 len2
  clear n2 n3 n4 n5 n22 n23 n8 n17 n24 n9 n16 n25 n26
  rw [wr27 h,hbo] at hk
  conv=>whnf
  refine⟨ns,root,i,bo,rfl,rt,hi,.inr h,hbo,?_⟩
  conv=>whnf
  refine⟨bo,rfl,?_⟩
  conv=>whnf
  exact hr _ _ rfl hk
 have n27:(nd ns i).k≠27:=h
 conv=>whnf
 refine two_eq (fun h=>?_) (fun h=>?_)
 ·have h:(nd ns i).k=7:=h
  clear n2 n3 n4 n5 n22 n23 n8 n17 n24 n9 n16 n25 n26 n27
  have hql:=len1 (.inl h)
  try clear len1 len2
  have hqj:=hin _ (getD_mem (l:=(nd ns i).kids) (i:=0) (by omega))
  rw [wr7 h,ht0] at hk
  conv=>whnf
  refine⟨⟨by omega,hql,rfl⟩,?_⟩
  conv=>whnf
  refine⟨ns,root,_,((nd ns i).kids.getD 0 0).toNat,t0,rfl,(Int.toNat_of_nonneg hqj.1).symm,rt,by omega,ht0,?_⟩
  conv=>whnf
  repeat ((refine And.intro ?_ ?_);(focus ((conv=>whnf);first|done|exact⟨⟨by omega,by omega,rfl⟩,by conv=>whnf⟩));(conv=>whnf))
  refine⟨ns,root,_,i,t0,0,true,_,rfl,rfl,rt,hi,.inl ⟨rfl,rfl⟩,rfl,?_⟩
  conv=>whnf
  exact hr _ _ rfl hk
 have n7:(nd ns i).k≠7:=h
 conv=>whnf
 refine two_eq (fun h=>?_) (fun h=>?_)
 ·have h:(nd ns i).k=10:=h
  clear n2 n3 n4 n5 n22 n23 n8 n17 n24 n9 n16 n25 n26 n27 n7
  have hql:=len2 (.inl h)
  try clear len1 len2
  have hqj:=hin _ (getD_mem (l:=(nd ns i).kids) (i:=1) (by omega))
  rw [wr10 h,ht1] at hk
  conv=>whnf
  refine⟨⟨by omega,hql,rfl⟩,?_⟩
  conv=>whnf
  refine⟨ns,root,_,((nd ns i).kids.getD 1 0).toNat,t1,rfl,(Int.toNat_of_nonneg hqj.1).symm,rt,by omega,ht1,?_⟩
  conv=>whnf
  repeat ((refine And.intro ?_ ?_);(focus ((conv=>whnf);first|done|exact⟨⟨by omega,by omega,rfl⟩,by conv=>whnf⟩));(conv=>whnf))
  refine⟨_,rfl,?_⟩
  conv=>whnf
  exact hr _ _ rfl hk
 have n10:(nd ns i).k≠10:=h
 conv=>whnf
 refine two_eq (fun h=>?_) (fun h=>?_)
 ·have h:(nd ns i).k=15:=h
  clear n2 n3 n4 n5 n22 n23 n8 n17 n24 n9 n16 n25 n26 n27 n7 n10
  have hql:=len1 (.inr (.inl h))
  try clear len1 len2
  have hqj:=hin _ (getD_mem (l:=(nd ns i).kids) (i:=0) (by omega))
  rw [wr15 h,ht0] at hk
  conv=>whnf
  refine⟨⟨by omega,hql,rfl⟩,?_⟩
  conv=>whnf
  refine⟨ns,root,_,((nd ns i).kids.getD 0 0).toNat,t0,rfl,(Int.toNat_of_nonneg hqj.1).symm,rt,by omega,ht0,?_⟩
  conv=>whnf
  repeat ((refine And.intro ?_ ?_);(focus ((conv=>whnf);first|done|exact⟨⟨by omega,by omega,rfl⟩,by conv=>whnf⟩));(conv=>whnf))
  refine⟨_,rfl,?_⟩
  conv=>whnf
  exact hr _ _ rfl hk
 have n15:(nd ns i).k≠15:=h
 conv=>whnf
 refine two_eq (fun h=>?_) (fun h=>?_)
 ·have h:(nd ns i).k=11:=h
  clear n2 n3 n4 n5 n22 n23 n8 n17 n24 n9 n16 n25 n26 n27 n7 n10 n15
  have hql:=len1 (.inr (.inr (.inl h)))
  try clear len1 len2
  have hqj:=hin _ (getD_mem (l:=(nd ns i).kids) (i:=0) (by omega))
  rw [wr11 h,ht0] at hk
  conv=>whnf
  refine⟨⟨by omega,hql,rfl⟩,?_⟩
  conv=>whnf
  refine⟨ns,root,_,((nd ns i).kids.getD 0 0).toNat,t0,rfl,(Int.toNat_of_nonneg hqj.1).symm,rt,by omega,ht0,?_⟩
  conv=>whnf
  repeat ((refine And.intro ?_ ?_);(focus ((conv=>whnf);first|done|exact⟨⟨by omega,by omega,rfl⟩,by conv=>whnf⟩));(conv=>whnf))
  refine⟨_,rfl,?_⟩
  conv=>whnf
  exact hr _ _ rfl hk
 have n11:(nd ns i).k≠11:=h
 conv=>whnf
 refine two_eq (fun h=>?_) (fun h=>?_)
 ·have h:(nd ns i).k=12:=h
  clear n2 n3 n4 n5 n22 n23 n8 n17 n24 n9 n16 n25 n26 n27 n7 n10 n15 n11
  have hql:=len1 (.inr (.inr (.inr h)))
  try clear len1 len2
  have hqj:=hin _ (getD_mem (l:=(nd ns i).kids) (i:=0) (by omega))
  rw [wr12 h,ht0] at hk
  conv=>whnf
  refine⟨⟨by omega,hql,rfl⟩,?_⟩
  conv=>whnf
  refine⟨ns,root,_,((nd ns i).kids.getD 0 0).toNat,t0,rfl,(Int.toNat_of_nonneg hqj.1).symm,rt,by omega,ht0,?_⟩
  conv=>whnf
  repeat ((refine And.intro ?_ ?_);(focus ((conv=>whnf);first|done|exact⟨⟨by omega,by omega,rfl⟩,by conv=>whnf⟩));(conv=>whnf))
  refine⟨_,rfl,?_⟩
  conv=>whnf
  exact hr _ _ rfl hk
 have n12:(nd ns i).k≠12:=h
 conv=>whnf
 refine two_eq (fun h=>?_) (fun h=>?_)
 ·have h:(nd ns i).k=13:=h
  clear len1 len2
  clear n2 n3 n4 n5 n22 n23 n8 n17 n24 n9 n16 n25 n26 n27 n7 n10 n15 n11 n12
  rw [wr13 h] at hk
  conv=>whnf
  refine⟨ns,root,_,i,_,rfl,rfl,rt,hi,h,rfl,?_⟩
  conv=>whnf
  exact hr _ _ rfl hk
 have n13:(nd ns i).k≠13:=h
 conv=>whnf
 refine two_eq (fun h=>?_) (fun h=>?_)
 ·have h:(nd ns i).k=14:=h
  clear len1 len2
  clear n2 n3 n4 n5 n22 n23 n8 n17 n24 n9 n16 n25 n26 n27 n7 n10 n15 n11 n12 n13
  have o12:=own_in rt hi (by omega)
  rw [ho] at o12
  have o1:=o12.1
  have o2:=o12.2
  rw [wr14 h,ho,retR] at hk
  conv=>whnf
  refine⟨ns,root,_,i,o,rfl,rfl,rt,hi,ho,?_⟩
  conv=>whnf
  repeat ((refine And.intro ?_ ?_);(focus ((conv=>whnf);first|done|exact⟨⟨by omega,by omega,rfl⟩,by conv=>whnf⟩));(conv=>whnf))
  refine⟨⟨o1,o2,rfl⟩,?_⟩
  conv=>whnf
  refine two_eq (fun h2=>?_) (fun h2=>?_)
  ·have h2:(nd ns i).kids.length=0:=by have h2:((nd ns i).kids.length:Int)=0:=h2;omega
   rw [if_pos h2] at hk
   conv=>whnf
   refine⟨_,rfl,?_⟩
   conv=>whnf
   exact hr _ _ rfl hk
  have h2:(nd ns i).kids.length≠0:=by have h2:((nd ns i).kids.length:Int)≠0:=h2;omega
  rw [if_neg h2] at hk
  have hql:=(show (0:Int)<((nd ns i).kids.length:Int) by omega)
  try clear len1 len2
  have hqj:=hin _ (getD_mem (l:=(nd ns i).kids) (i:=0) (by omega))
  rw [ht0] at hk
  conv=>whnf
  refine two_ne (fun h3=>?_) (fun h3=>?_)
  ·have h3:(nd ns o.toNat).n≠0:=h3
   rw [bne_iff_ne.2 h3,Bool.true_and] at hk
   conv=>whnf
   refine⟨⟨by omega,hql,rfl⟩,?_⟩
   conv=>whnf
   refine⟨ns,root,_,((nd ns i).kids.getD 0 0).toNat,t0,rfl,(Int.toNat_of_nonneg hqj.1).symm,rt,by omega,ht0,?_⟩
   conv=>whnf
   repeat ((refine And.intro ?_ ?_);(focus ((conv=>whnf);first|done|exact⟨⟨by omega,by omega,rfl⟩,by conv=>whnf⟩));(conv=>whnf))
   refine⟨_,rfl,?_⟩
   conv=>whnf
   exact hr _ _ rfl hk
  ·have h3:(nd ns o.toNat).n=0:=h3
   rw [h3] at hk
   conv=>whnf
   refine⟨_,rfl,?_⟩
   conv=>whnf
   exact hr _ _ rfl hk
 have n14:(nd ns i).k≠14:=h
 rw [wrD n2 n3 n4 n5 n22 n23 n8 n17 n24 n9 n16 n25 n26 n27 n7 n10 n15 n11 n12 n13 n14] at hk
 conv=>whnf
 exact hr _ _ rfl hk
theorem small_kt {m:Nat} {ns:List Nd} (hm:m<1000000) (h:smallS m ns=true):Kt ns:=by
 simp only [smallS,Bool.and_eq_true,decide_eq_true_eq,List.all_eq_true] at h
 refine⟨by omega,fun i=>?_⟩
 by_cases hi:i<ns.length
 ·have:=(h.2 ns[i] (List.getElem_mem hi)).1
  show (ns.getD i default).kids.length<1000000
  rw [List.getD_eq_getElem?_getD,List.getElem?_eq_getElem hi]
  simp only [Option.getD_some];omega
 ·rw [show nd ns i=default by simp [nd,Nat.le_of_not_lt hi]]
  exact (by decide:(default:Nd).kids.length<1000000)
def gRck:AG:=gput 49 cRRight (gput 50 cRwrong (gput 51 cRof (gput 52 cRparams g0)))
theorem gRck_ok:GOk Tryz.prog gRck:=gput_ok rright_ok (gput_ok rwrong_ok (gput_ok rof_ok (gput_ok rparams_ok g0_ok)))
def eRCheck:AC:=fun args K k=>∃ ns root a e,args=[treeV ns root]∧Tame ns∧Kt ns∧checkTree ns root=(a,e)∧k (.ret (.tup [intV a,intV e])) K
theorem rcheck_ok:COk 10 eRCheck:=by
 rintro args K k ⟨ns,root,a,e,rfl,ta,kt,hc,hk⟩
 refine frame0P gRck_ok 19 rfl fun Q hr=>?_
 unfold checkTree at hc
 cases h:rightS ns root with
 | false =>
  rw [h] at hc
  conv=>whnf
  refine⟨ns,root,_,rfl,kt,ta,h,?_⟩
  obtain⟨rfl,rfl⟩:0=a∧1=e:=Prod.mk.inj hc
  conv=>whnf
  exact hr _ _ rfl hk
 | true =>
  rw [h] at hc
  simp only at hc
  have rt:=right_of h
  have hlen:=rt.len
  have hrl:=rt.rlt
  have hrt:=rt.rt
  conv=>whnf
  refine⟨ns,root,_,rfl,kt,ta,h,?_⟩
  conv=>whnf
  refine loop_up (ι:=Nat) [1] (fun i=>[(5,intV i)]) (fun _=>[]) (fun i=>i≤ns.length∧(∀ j,j<i→checkS ns root j=0)∧wrongS ns root i (ns.length - i)=wrongS ns root 0 ns.length) (fun i=>ns.length - i) 0 ⟨AV.le_refl _,trivial⟩ trivial ⟨Nat.zero_le _,fun j hj=>absurd hj (Nat.not_lt_zero _),rfl⟩ ?_
  rintro Y hle i ⟨hi,hb,he⟩ ih
  conv=>whnf
  refine two_dec (fun h2=>?_) (fun h2=>?_)
  ·have h2:i<ns.length:=by have h2:(i:Int)<(ns.length:Int):=h2;omega
   have hw1:=wzz (i:=i) (by omega)
   obtain⟨m,hm⟩:∃ m,ns.length - i=m+1:=⟨ns.length - i - 1,by omega⟩
   have hm':ns.length - (i+1)=m:=by omega
   rw [hm] at he
   simp only [wrongS] at he
   have hwe:=wrong_eq rt h2 hb
   obtain⟨v,hv⟩:∃ v,checkS ns root i=v:=⟨_,rfl⟩
   rw [hv] at he hwe
   conv=>whnf
   refine⟨ns,root,_,i,v,rfl,rfl,rt,h2,hwe,?_⟩
   conv=>whnf
   refine two_ne (fun h3=>?_) (fun h3=>?_)
   ·have h3:v≠0:=h3
    rw [beq_eq_false_iff_ne.2 h3] at he
    simp only at he
    rw [← he] at hc
    obtain⟨rfl,rfl⟩:(i:Int)=a∧v=e:=Prod.mk.inj hc
    conv=>whnf
    exact hr _ _ rfl hk
   ·have h3:v=0:=h3
    rw [h3] at he
    have hb2:∀ j,j<i+1→checkS ns root j=0:=fun j hj=>by
     rcases Nat.lt_succ_iff_lt_or_eq.1 hj with e|rfl
     ·exact hb j e
     ·exact hv.trans h3
    conv=>whnf
    refine hle _ _ (Le.env ?_ ?_) (ih (i+1) (by omega) ⟨by omega,hb2,by rw [hm'];exact he⟩)
    ·skip
     repeat' (first|exact trivial|((conv=>whnf);first|exact trivial|refine⟨AV.le_refl _,?_⟩|refine⟨ABlk.le_refl _,?_⟩|(refine And.intro (AV.le_of_eq ?_) ?_;focus ((first|exact congrArg intV hw1);done))|(refine And.intro (ABlk.le_of_eq ?_) ?_;focus ((first|exact congrArg intV hw1);done))|fail)|fail)
    ·skip
     repeat' (first|exact trivial|((conv=>whnf);first|exact trivial|refine⟨AV.le_refl _,?_⟩|refine⟨ABlk.le_refl _,?_⟩|(refine And.intro (AV.le_of_eq ?_) ?_;focus ((first|fail);done))|(refine And.intro (ABlk.le_of_eq ?_) ?_;focus ((first|fail);done))|fail)|fail)
  ·obtain rfl:i=ns.length:=by have h2:¬ (i:Int)<(ns.length:Int):=h2;omega
   rw [Nat.sub_self] at he
   simp only [wrongS] at he
   rw [← he] at hc
   simp only at hc
   have hp:=procI_range ns mainT
   have hop:=of_proc rt mainT
   generalize procI ns mainT=p at hc hp hop
   conv=>whnf
   refine⟨ns,root,_,root.toNat,3,3,_,p,rfl,by omega,rt,hrl,hop,?_⟩
   conv=>whnf
   refine two_dec (fun h3=>?_) (fun h3=>?_)
   ·have h3:p=-1:=by have h3:p<0:=h3;omega
    subst h3
    obtain⟨rfl,rfl⟩:root=a∧11=e:=Prod.mk.inj hc
    conv=>whnf
    exact hr _ _ rfl hk
   have h3:¬ p<0:=h3
   obtain⟨q,rfl⟩:∃ q:Nat,p=(q:Int):=⟨p.toNat,by omega⟩
   have hq:q<ns.length:=by omega
   rw [beq_eq_false_iff_ne.2 (show (q:Int)≠-1 by omega),Bool.false_or] at hc
   conv=>whnf
   refine⟨⟨by omega,by omega,rfl⟩,?_⟩
   conv=>whnf
   refine two_ne (fun h4=>?_) (fun h4=>?_)
   ·have h4:(nd ns q).n≠0:=h4
    rw [show ((nd ns ((q:Int)).toNat).n != 0)=true from bne_iff_ne.2 h4] at hc
    obtain⟨rfl,rfl⟩:root=a∧11=e:=Prod.mk.inj hc
    conv=>whnf
    exact hr _ _ rfl hk
   have h4:(nd ns q).n=0:=h4
   rw [show ((nd ns ((q:Int)).toNat).n != 0)=false from by simpa using h4,Bool.false_or] at hc
   obtain⟨ps,hps⟩:∃ ps,paramsS ns q=ps:=⟨_,rfl⟩
   have hc:(match decide (0<ps.length) with|true=>(root,(11:Int))|false=>(0,0))=(a,e):=by rw [← hps];exact hc
   conv=>whnf
   refine⟨ns,root,_,q,ps,rfl,rfl,rt,hq,hps,?_⟩
   conv=>whnf
   refine two_dec (fun h5=>?_) (fun h5=>?_)
   ·have h5:0<ps.length:=by have h5:(ps.length:Int)>0:=h5;omega
    rw [decide_eq_true h5] at hc
    obtain⟨rfl,rfl⟩:root=a∧11=e:=Prod.mk.inj hc
    conv=>whnf
    exact hr _ _ rfl hk
   ·have h5:¬ 0<ps.length:=by have h5:¬ (ps.length:Int)>0:=h5;omega
    rw [decide_eq_false h5] at hc
    obtain⟨rfl,rfl⟩:0=a∧0=e:=Prod.mk.inj hc
    conv=>whnf
    exact hr _ _ rfl hk
def graphV (s:BSt):AV:=.agg [.p (.sl 5 s.n (gnF s.f)),.p (.sl 1 s.ps.length (kidF s.ps))]
def graphW (s:BSt):AV:=.agg [.p (.sl 5 s.n (gnW s.f)),.p (.sl 1 s.ps.length (kidF s.ps))]
def gnV (g:GN):AV:=.agg [intV g.k,intV g.pl,intV g.pr,intsV g.nx,intV g.ra]
def grW (s:BSt):ABlk:=.box 42 [.p (.sl 5 s.n (gnW s.f)),.p (.sl 1 s.ps.length (kidF s.ps))]
def endK (s:BSt) (kind proc:Int):List ABlk:=[grW s,.box 3 [intV kind],.box 3 [intV proc]]
def cEnd1:AC:=fun args K k=>∃ s x kind proc X,args=[gnV (s.f (x:Nat)),.ptr 1 0 1 0 0,.ptr 2 0 1 0 0]∧K=endK s kind proc++X∧k (.ret (.p (.bool (kindP s.f kind proc x)))) (endK s kind proc++X)
theorem end1_ok:COk 124 cEnd1:=by
 rintro args K k ⟨s,x,kind,proc,X,rfl,rfl,hk⟩
 refine frameG (K0:=endK s kind proc) (X:=X) g0_ok 19 rfl ⟨rfl,rfl,rfl,trivial⟩ fun Q hr=>?_
 conv=>whnf
 refine two_eq (fun h=>?_) (fun h=>?_)
 ·have h:(s.f x).k=kind:=h
  conv=>whnf
  exact hr _ _ _ _ rfl rfl ⟨rfl,rfl,rfl,trivial⟩ (AV.le_refl _) (lesK.refl _) (by simp only [kindP,beq_iff_eq.2 h,Bool.true_and] at hk;exact hk)
 ·have h:(s.f x).k≠kind:=h
  conv=>whnf
  exact hr _ _ _ _ rfl rfl ⟨rfl,rfl,rfl,trivial⟩ (AV.le_refl _) (lesK.refl _) (by simp only [kindP,beq_eq_false_iff_ne.2 h,Bool.false_and] at hk;exact hk)
def cIdxE:AC:=fun args K k=>∃ s kind proc X,args=[.p (.sl 5 s.n (gnW s.f)),.fn 124 [] [.ptr 1 0 1 0 0,.ptr 2 0 1 0 0]]∧K=endK s kind proc++X∧s.n<1000000∧k (.ret (intV (endT s kind proc))) (endK s kind proc++X)
theorem idxE_ok:COk 76 cIdxE:=by
 rintro args K k ⟨s,kind,proc,X,rfl,rfl,hn,hk⟩
 refine frameG (K0:=endK s kind proc) (X:=X) (gput_ok end1_ok g0_ok) 19 rfl ⟨rfl,rfl,rfl,trivial⟩ fun Q hr=>?_
 conv=>whnf
 refine loop_up (ι:=Nat) [0,1,7] (fun i=>[(8,intV i)]) (fun _=>[]) (fun i=>i≤s.n∧∀ j,j<i→(kindP s.f kind proc) j=false) (fun i=>s.n - i) 0 ⟨AV.le_refl _,trivial⟩ trivial ⟨Nat.zero_le _,fun j hj=>by omega⟩ ?_
 rintro Y hle i ⟨hi,he⟩ ih
 conv=>whnf
 refine two_dec (fun h=>?_) (fun h=>?_)
 ·have h:i<s.n:=by have h:(i:Int)<(s.n:Int):=h;omega
  have hw1:=wzz (i:=i) (by omega)
  conv=>whnf
  refine⟨⟨by omega,by omega,rfl⟩,?_⟩
  conv=>whnf
  refine⟨s,i,kind,proc,[],rfl,rfl,?_⟩
  conv=>whnf
  refine two_intro (fun h2=>?_) (fun h2=>?_)
  ·have h2:(kindP s.f kind proc) i=true:=h2
   conv=>whnf
   exact hr _ _ _ _ rfl rfl ⟨rfl,rfl,rfl,trivial⟩ (AV.le_refl _) (lesK.refl _) ((endS_at h h2 he)▸hk)
  ·have h2:(kindP s.f kind proc) i=false:=h2
   conv=>whnf
   refine hle _ _ (Le.env ?_ ?_) (ih (i+1) (by omega) ⟨by omega,fun j hj=>by
    by_cases e:j=i
    ·rw [e];exact h2
    ·exact he j (by omega)⟩)
   ·skip
    repeat' (first|exact trivial|((conv=>whnf);first|exact trivial|refine⟨AV.le_refl _,?_⟩|refine⟨ABlk.le_refl _,?_⟩|(refine And.intro (AV.le_of_eq ?_) ?_;focus ((first|exact congrArg intV hw1);done))|(refine And.intro (ABlk.le_of_eq ?_) ?_;focus ((first|exact congrArg intV hw1);done))|fail)|fail)
   ·skip
    repeat' (first|exact trivial|((conv=>whnf);first|exact trivial|refine⟨AV.le_refl _,?_⟩|refine⟨ABlk.le_refl _,?_⟩|(refine And.intro (AV.le_of_eq ?_) ?_;focus ((first|fail);done))|(refine And.intro (ABlk.le_of_eq ?_) ?_;focus ((first|fail);done))|fail)|fail)
 ·obtain rfl:i=s.n:=by have h:¬ (i:Int)<(s.n:Int):=h;omega
  conv=>whnf
  exact hr _ _ _ _ rfl rfl ⟨rfl,rfl,rfl,trivial⟩ (AV.le_refl _) (lesK.refl _) ((endS_no he)▸hk)
def gEnd:AG:=gput 76 cIdxE g0
theorem gEnd_ok:GOk Tryz.prog gEnd:=gput_ok idxE_ok g0_ok
def cEndM:AC:=fun args K k=>∃ s kind proc,args=[graphW s,intV kind,intV proc]∧s.n<1000000∧k (.ret (intV (endT s kind proc))) K
theorem endM_ok:COk 75 cEndM:=by
 rintro args K k ⟨s,kind,proc,rfl,hn,hk⟩
 refine frame0P gEnd_ok 19 rfl fun Q hr=>?_
 conv=>whnf
 refine⟨s,kind,proc,_,rfl,rfl,hn,?_⟩
 conv=>whnf
 exact hr _ _ rfl hk
def gEnd2:AG:=gput 75 cEndM g0
theorem gEnd2_ok:GOk Tryz.prog gEnd2:=gput_ok endM_ok g0_ok
def eEnds (kind:Int):AC:=fun args K k=>∃ s proc v,args=[graphW s,intV proc]∧s.n<1000000∧endT s kind proc=v∧k (.ret (intV v)) K
theorem entry_ok:COk 33 (eEnds 1):=by
 rintro args K k ⟨s,proc,v,rfl,hn,rfl,hk⟩
 refine frame0P gEnd2_ok 19 rfl fun Q hr=>?_
 conv=>whnf
 refine⟨s,1,proc,rfl,hn,?_⟩
 conv=>whnf
 exact hr _ _ rfl hk
theorem exit_ok:COk 35 (eEnds 2):=by
 rintro args K k ⟨s,proc,v,rfl,hn,rfl,hk⟩
 refine frame0P gEnd2_ok 19 rfl fun Q hr=>?_
 conv=>whnf
 refine⟨s,2,proc,rfl,hn,?_⟩
 conv=>whnf
 exact hr _ _ rfl hk
theorem fail_ok8:COk 36 (eEnds 3):=by
 rintro args K k ⟨s,proc,v,rfl,hn,rfl,hk⟩
 refine frame0P gEnd2_ok 19 rfl fun Q hr=>?_
 conv=>whnf
 refine⟨s,3,proc,rfl,hn,?_⟩
 conv=>whnf
 exact hr _ _ rfl hk
end Go.Proofs.YtojjkleplnijaaaGreatDoor
namespace Go.AE
theorem Le.fzx {kb:Nat} {t:List (Nat×AV)} {K K':List ABlk} {r ty sz n:Nat} {f:Nat→List AV} (g:Nat→List PV) (hr:nth K r=some (.arr ty sz 0 n f)) (hg:∀ i,i<n→f i=pvs (g i))
  (hK:fsxK r sz n g (setN K r .dead) K'):Le kb ⟨t,K⟩ ⟨t,K'⟩:=fun we me hk w m tmps hT hS hE=>by
 obtain⟨m',h1,h2,h3⟩:=fzx_core hS hr hg hK
 exact⟨m',hT.trans h1,h2,fun d=>h3 _ _ _ (.inl (AV.le_refl _)) (hE d),.tr h1 h2⟩
theorem pvs_map (l:List PV):pvs l=l.map AV.p:=by
 induction l with
 | nil=>rfl
 | cons a l ih=>simp only [pvs,ih,List.map_cons]
theorem Fz.row {K:List ABlk} {r ty sz n:Nat} {g:Nat→List PV} (hr:nth K r=some (.arr ty sz 0 n (fun i=>pvs (g i)))):Fz K (.slr r 0 0 n) (.sl sz n g):=by
 refine .sl r ty sz 0 n 0 n _ g hr (Nat.zero_add _) (fun i hi=>?_) (fun i hi j hj hj'=>?_)
 ·simp only [pvs_map,List.length_map,Nat.zero_add]
 ·simp only [pvs_map,List.getElem_map,Nat.zero_add]
  exact .p _
theorem Le.fz7 {kb:Nat} {t:List (Nat×AV)} {b0 b1 b2 b3 b4 b5 b5' b6:ABlk} {Y:List ABlk} {r ty sz n:Nat} {f:Nat→List AV} (g:Nat→List PV) (hr:nth Y r=some (.arr ty sz 0 n f)) (hg:∀ i,i<n→f i=pvs (g i))
  (h5:fsxB (r+7) sz n g b5 b5'):Le kb ⟨t,b0::b1::b2::b3::b4::b5::b6::Y⟩ ⟨t,b0::b1::b2::b3::b4::b5'::b6::setN Y r .dead⟩ :=
 Le.fzx (r:=r+7) g hr hg ⟨.inl (.inl (ABlk.le_refl _)),.inl (.inl (ABlk.le_refl _)),.inl (.inl (ABlk.le_refl _)),.inl (.inl (ABlk.le_refl _)),.inl (.inl (ABlk.le_refl _)),h5,.inl (.inl (ABlk.le_refl _)),fsxK.refl _ _ _ _ _⟩
end Go.AE
namespace Go.Proofs.YtojjkleplnijaaaGreatDoor
open Go.AE Go.Ru
set_option maxRecDepth 100000
set_option maxHeartbeats 2000000
def eFbl:AC:=fun args K k=>∃ (ns:List Nd) (root:Int) (n:Nat) (G:Nat→GN) (of:Int→Option Nat) (ex:Int) (np:Nat) (pf:Nat→Int) (p:Nat) (fo h:Int) (X:List ABlk) (ex' p' fo' h':Int) (b:Int) (G':Nat→GN),
 args=[lpV,intV p',intV fo',intV h']∧K=stK ns root n G of ex' np pf++X∧p'=(p:Int)∧fo'=fo∧h'=h∧ex'=ex∧RightT ns root∧p<ns.length∧(nd ns p).k=6∧OfOk ns of n p∧flBlock ns of ex 4000 p fo h G=(b,G') ∧
 k (.ret (intV b)) (stK ns root n G' of ex np pf++X)
theorem eFbl_ok:COk 65 eFbl:=by
 rintro args K k ⟨ns,root,n,G,of,ex,np,pf,p,fo,h,X,_,_,_,_,b,G',h1,h2,rfl,rfl,rfl,rfl,rt,h3,h4,h5,h6,h7⟩
 have:=rt.len
 exact fbl_ok (fst_ok 4000) args K k ⟨ns,root,n,G,of,_,np,pf,p,_,_,X,h1,h2,rt,h3,by omega,h4,h5,by rw [h6];exact h7⟩
def endsJ (n:Nat) (f:Nat→GN) (p num:Int):Nat→Nat→GN
 | 0=>f
 | 1=>addG n f ⟨1,p,num,[],-1⟩
 | 2=>addG (n+1) (addG n f ⟨1,p,num,[],-1⟩) ⟨2,p,num,[],-1⟩
 | _=>endsS n f p num
theorem gn_snoc {n:Nat} {G:Nat→GN} {x:GN} {f:Nat→List AV} (hf:f 0=pvs (gnF (fun _=>x) 0)) :
  (ABlk.arr 53 5 0 (n+1) (catF n (fun i=>pvs (gnF G i)) f)).le (gnA (n+1) (addG n G x)):=by
 refine ABlk.arr_eq rfl fun i hi=>?_
 by_cases h:i<n
 ·rw [catF_lt h]
  simp [gnF,addG,show i≠n by omega]
 ·obtain rfl:i=n:=by omega
  rw [catF_ge (Nat.le_refl _),Nat.sub_self,hf]
  simp [gnF,addG]
theorem ps_snoc {l:List Int} {x:Int}:(ABlk.arr 3 1 0 (l.length+1) (catF l.length (fun i=>pvs (rowF (fun i=>l.getD i 0) i)) fun i=>takeN (dropN [intV x] (i*1)) 1)).le (rowA (l.length+1) (fun i=>(l++[x]).getD i 0)):=by
 refine ABlk.arr_eq rfl fun i hi=>?_
 by_cases h:i<l.length
 ·rw [catF_lt h]
  simp [rowF,List.getD_eq_getElem?_getD,List.getElem?_append_left h]
 ·obtain rfl:i=l.length:=by omega
  rw [catF_ge (Nat.le_refl _),Nat.sub_self]
  simp [rowF,pvs,intV,takeN,dropN]
theorem nd_cl {n m:Nat} {G:Nat→GN} {f:Nat→List AV} {ty sz:Nat} (hf:AV.cls m (f 0)=true):(ABlk.arr ty sz 0 (n+1) (catF n (fun i=>pvs (gnF G i)) f)).cl m:=fun i hi=>by
 by_cases h:i<n
 ·rw [catF_lt h];rfl
 ·obtain rfl:i=n:=by omega
  rw [catF_ge (Nat.le_refl _),Nat.sub_self];exact hf
theorem row3_cl {m:Nat} {a b c:Int}:∀ i,i<3→AV.cls m (takeN (dropN [AV.p (.int .i64 a),AV.p (.int .i64 b),AV.p (.int .i64 c)] (i*1)) 1)=true:=fun i hi=>by
 rcases (by omega:i=0∨i=1∨i=2) with rfl|rfl|rfl <;> rfl
theorem row1_cl {m:Nat} {a:Int}:∀ i,i<1→AV.cls m (takeN (dropN [AV.p (.int .i64 a)] (i*1)) 1)=true:=fun i hi=>by
 obtain rfl:i=0:=by omega
 rfl
theorem ofG_ins {of:Int→Option Nat} {i:Int} {n:Nat} {p:Nat} (h:i=(p:Int)):insM (ofG of) (.i .i64 i) (intV (n:Int))=ofG (insO of p n):=by
 subst h
 funext κ
 cases κ with
 | s l=>simp [insM,ofG]
 | i q o =>
  unfold insM ofG insO
  by_cases hq:q=.i64
  ·subst hq
   by_cases ho:o=(p:Int)
   ·subst ho;simp
   ·have:(MK.i .i64 o)≠MK.i .i64 (p:Int):=fun h=>ho (by injection h)
    simp only [this,ho,if_false]
  ·have:(MK.i q o)≠MK.i .i64 (p:Int):=fun h=>hq (by injection h)
   simp only [this,hq,if_false]
theorem gn_upd1 {G:Nat→GN} {j a1:Nat} {c1:List AV} {v:AV} (h1:a1=j) (hc1:c1=[v]) (i:Nat) :
  updF (fun i=>pvs (gnF G i)) a1 (putCells ((fun i=>pvs (gnF G i)) a1) (0+3) c1) i =
   if i=j then [intV (G j).k,intV (G j).pl,intV (G j).pr,v,intV (G j).ra] else pvs (gnF G i):=by
 subst h1 hc1
 simp only [updF_eq]
 split <;> rfl
theorem ofG0:ABlk.mp (.int .i64) (fun _=>none) []=.mp (.int .i64) (ofG fun _=>none) []:=by
 congr 1
 funext κ
 cases κ <;> simp [ofG]
theorem fzv_graph {K:List ABlk} {s:BSt} (h1:nth K 5=some (gnA s.n s.f)) (h2:nth K 6=some (rowA s.ps.length (fun i=>s.ps.getD i 0))) :
  FzV K (.tup [.agg [.slr 5 0 0 s.n,.slr 6 0 0 s.ps.length],intV 0]) (.tup [graphV s,intV 0]):=by
 refine .tup _ _ rfl fun j hj hj'=>?_
 rcases j with _|_|j
 ·refine .agg _ _ rfl fun j hj hj'=>?_
  rcases j with _|_|j
  ·exact .p _ _ (Fz.row h1)
  ·exact .p _ _ (Fz.row (g:=kidF s.ps) h2)
  ·simp at hj;omega
 ·exact .p _ _ (.p _)
 ·simp at hj;omega
def gBuild:AG:=gput 9 eCheck (gput 65 eFbl g0)
theorem gBuild_ok:GOk Tryz.prog gBuild:=gput_ok eCheck_ok (gput_ok eFbl_ok g0_ok)
def graph0:AV:=.agg [.p .nils,.p .nils]
def eBuild:AC:=fun args K k=>∃ ns root a e s,args=[treeV ns root]∧Tame ns∧checkTree ns root=(a,e)∧buildS ns root=s∧(e≠0→k (.ret (.tup [graph0,intV 1])) K)∧(e=0→k (.ret (.tup [graphV s,intV 0])) K)
structure BC where
 s:BSt
 j:Nat
 ex:Int
structure B1 where
 i:Nat
 s:SS
theorem build_okW:COk 28 eBuild:=by
 rintro args K k ⟨ns,root,a,e,s,rfl,ta,hc,hs,hk1,hk0⟩
 by_cases he:e=0
 case neg =>
  refine frame0P gBuild_ok 19 rfl fun Q hr=>?_
  conv=>whnf
  refine⟨ns,root,a,e,rfl,ta,hc,?_⟩
  conv=>whnf
  refine two_ne (fun _=>?_) (fun h=>absurd h he)
  conv=>whnf
  exact hr _ _ rfl (hk1 he)
 subst he
 have hk:=hk0 rfl
 clear hk0 hk1
 have rt:=right_of (check_right hc)
 have hlen:=rt.len
 have hrt:=rt.rt
 have hpos:=rt.pos
 refine frame0W gBuild_ok 19 rfl fun Q hr=>?_
 have hksl:(nd ns root.toNat).kids.length<ns.length:=by have:=rt.many root.toNat (by omega);omega
 conv=>whnf
 refine⟨ns,root,a,0,rfl,ta,hc,?_⟩
 conv=>whnf
 refine⟨⟨by omega,by omega,rfl⟩,?_⟩
 conv=>whnf
 refine LoopW.le (Le.nilRow (t':=[(1,.ptr 0 0 1 0 0),(2,.ptr 1 0 1 0 0),(3,intV 0),(6,.ptr 2 0 1 0 0),(7,lpV),(35,intsV (nd ns root.toNat).kids),(36,intV (nd ns root.toNat).kids.length),(8,intV 0),(37,intV 0)])
  (K':=[tbox ns root,.box 42 [.p .nils,.p .nils],.box 42 [.slr 5 0 0 0,.p .nils],.mp (.int .i64) (ofG fun _=>none) [],layB ns root 0]) 53 5 (fun i=>pvs (gnF bst0.f i)) rfl
  ⟨.inl (AV.le_refl _),.inl (AV.le_refl _),.inl (AV.le_refl _),.inl (AV.le_refl _),.inl (AV.le_refl _),.inl (AV.le_refl _),.inl (AV.le_refl _),.inl (AV.le_refl _),.inl (AV.le_refl _),trivial⟩
  ⟨.inl (ABlk.le_refl _),.inl (ABlk.le_refl _),.inr ⟨_,_,_,rfl,rfl,.inr ⟨rfl,rfl⟩,.inl (AV.le_refl _),trivial⟩,.inl (ABlk.le_of_eq ofG0),.inl (ABlk.le_refl _),trivial⟩) ?_
 refine loop_nil (ι:=BC) 3 1 (fun i=>pvs (rowF (fun i=>bst0.ps.getD i 0) i)) (fun c=>⟨[(1,.ptr 0 0 1 0 0),(2,.ptr 1 0 1 0 0),(3,intV 0),(6,.ptr 2 0 1 0 0),(7,lpV),(35,intsV (nd ns root.toNat).kids),(36,intV (nd ns root.toNat).kids.length),(8,intV c.s.fst),(37,intV c.j)],
   stK ns root c.s.n c.s.f c.s.of c.ex c.s.ps.length (fun i=>c.s.ps.getD i 0)⟩)
  (fun c=>c.j≤(nd ns root.toNat).kids.length∧BPre ns root ((nd ns root.toNat).kids.take c.j) ((nd ns root.toNat).kids.drop c.j) c.s∧buildR ns ((nd ns root.toNat).kids.drop c.j) c.s=s∧c.s.ps.length≤c.j) (fun c=>(nd ns root.toNat).kids.length - c.j) ⟨bst0,0,0⟩
  [tbox ns root,.box 42 [.p .nils,.p .nils],grB 0 0,.mp (.int .i64) (ofG fun _=>none) [],layB ns root 0,gnA 0 bst0.f]
  rfl ⟨.inl (AV.le_refl _),.inl (AV.le_refl _),.inl (AV.le_refl _),.inl (AV.le_refl _),.inl (AV.le_refl _),.inl (AV.le_refl _),.inl (AV.le_refl _),.inl (AV.le_refl _),.inl (AV.le_refl _),trivial⟩
  ⟨.inl (ABlk.le_refl _),.inl (ABlk.le_refl _),.inr ⟨_,_,_,rfl,rfl,.inl (AV.le_refl _),.inr ⟨rfl,rfl⟩,trivial⟩,.inl (ABlk.le_refl _),.inl (ABlk.le_refl _),.inl (ABlk.le_refl _),trivial⟩
  rfl ⟨Nat.zero_le _,bpre0 rt,hs,Nat.le_refl _⟩ ?_
 rintro Y hle ⟨s0,j,ex⟩ ⟨hj,hpre,hbd,hpsl⟩ ih
 simp only at hj hpre hbd hpsl
 conv=>whnf
 refine two_dec (fun h=>?_) (fun h=>?_)
 ·have h:j<(nd ns root.toNat).kids.length:=by have h:(j:Int)<((nd ns root.toNat).kids.length:Int):=h;omega
  have hw1:=wzz (i:=j) (by omega)
  rw [List.drop_eq_getElem_cons h] at hbd hpre
  have e1:(nd ns root.toNat).kids.getD j 0=(nd ns root.toNat).kids[j]:=by simp [h]
  rw [← e1] at hbd hpre
  obtain⟨q,hq⟩:∃ q,(nd ns root.toNat).kids.getD j 0=q:=⟨_,rfl⟩
  rw [hq] at hbd hpre
  rw [buildR_cons] at hbd
  obtain⟨sh,hq0,_⟩:=step_h rt hpre.hd hpre.ahead hpre.left
  obtain⟨q,rfl⟩:∃ x:Nat,q=(x:Int):=⟨q.toNat,by omega⟩
  have hnext:=hpre.step rt
  rw [Int.toNat_natCast] at sh hbd hnext
  have htk:(nd ns root.toNat).kids.take j++[(q:Int)]=(nd ns root.toNat).kids.take (j+1):=by
   rw [List.take_add_one,← hq,List.getD_eq_getElem?_getD,List.getElem?_eq_getElem h];rfl
  rw [htk] at hnext
  have hql:q<ns.length:=by have:=sh.lt;omega
  have hlo:=sh.lo
  obtain⟨e,hinv⟩:=hpre.inv
  have hnum:=hinv.num
  have hcl:=cntB_le (stP' ns) s0.fst
  have hqv:((nd ns root.toNat).kids.getD ((j:Int)).toNat 0)=(q:Int):=hq
  have hb0:0≤(nd ns root.toNat).kids.getD ((j:Int)).toNat 0:=by rw [hqv];omega
  have hb1:(nd ns root.toNat).kids.getD ((j:Int)).toNat 0<(ns.length:Int):=by rw [hqv];omega
  have hwq:IntKind.i64.wrap ((nd ns root.toNat).kids.getD ((j:Int)).toNat 0+1)=((q+1:Nat):Int):=by rw [hqv,w64 ⟨by omega,by omega⟩];omega
  conv=>whnf
  refine Chk.mk ⟨by omega,by omega,rfl⟩ ?_
  conv=>whnf
  refine Chk.mk ⟨hb0,hb1,rfl⟩ ?_
  conv=>whnf
  refine two_eq (fun h3=>?_) (fun h3=>?_)
  ·have h3:(nd ns q).k=3:=by
    have h3:(nd ns ((nd ns root.toNat).kids.getD ((j:Int)).toNat 0).toNat).k=3:=h3
    rw [hqv] at h3;exact h3
   conv=>whnf
   refine Chk.mk ⟨rfl,rfl,rfl,allLt_ok ⟨trivial,rfl⟩⟩ ?_
   conv=>whnf
   refine Chk.mk ⟨rfl,rfl,rfl,rfl,(by show (s0.ps.length+1)*8≤140737488355328;omega),(by show s0.ps.length+1≤9223372036854775807;omega)⟩ ?_
   conv=>whnf
   have hps:(ABlk.arr 3 1 0 (s0.ps.length+1) (catF s0.ps.length (fun i=>pvs (rowF (fun i=>s0.ps.getD i 0) i)) fun i=>takeN (dropN [intV ((nd ns root.toNat).kids.getD ((j:Int)).toNat 0)] (i*1)) 1)).le (rowA (s0.ps.length+1) (fun i=>(s0.ps++[(q:Int)]).getD i 0)):=by
    rw [hqv];exact ps_snoc
   refine loop_up (ι:=Nat) [1,2,3,6,7,8,10,11,35,36,37,57,58] (fun i=>[(59,intV i)]) (fun i=>[(2,grB (s0.n+i) (s0.ps.length+1)),(5,gnA (s0.n+i) (endsJ s0.n s0.f (q:Int) (s0.ps.length:Int) i)),(6,rowA (s0.ps.length+1) (fun i=>(s0.ps++[(q:Int)]).getD i 0))])
    (fun i=>i≤3) (fun i=>3 - i) 0 ⟨AV.le_refl _,trivial⟩ ⟨upLe1 rfl (ABlk.le_refl _),upLe1 rfl (ABlk.le_refl _),upLe1 rfl hps,trivial⟩ (by decide) ?_
   rintro Z hlz i hi ihz
   have hi:i=0∨i=1∨i=2∨i=3:=by omega
   rcases hi with rfl|rfl|rfl|rfl
   ·skip
    conv=>whnf
    refine Chk.mk ⟨rfl,rfl,by decide,by decide,rfl⟩ ?_
    conv=>whnf
    refine Chk.mk ⟨rfl,rfl⟩ ?_
    conv=>whnf
    refine Chk.mk ⟨rfl,rfl,rfl,allLt_ok ⟨trivial,rfl⟩⟩ ?_
    conv=>whnf
    refine Chk.mk ⟨rfl,rfl,rfl,rfl,(by show (s0.n+0+1)*56≤140737488355328;omega),(by show s0.n+0+1≤9223372036854775807;omega)⟩ ?_
    conv=>whnf
    refine hlz _ _ (Le.cutEnv 9 rfl rfl ⟨rfl,rfl,rfl,ofG_cl,rfl,nd_cl rfl,fun _ _=>rfl,row1_cl,row3_cl,trivial⟩ ?_ ?_) (ihz 1 (by decide) (by decide))
    ·skip
     repeat' (first|exact trivial|((conv=>whnf);first|exact trivial|refine⟨AV.le_refl _,?_⟩|refine⟨ABlk.le_refl _,?_⟩|(refine And.intro (AV.le_of_eq ?_) ?_;focus ((first|fail);done))|(refine And.intro (ABlk.le_of_eq ?_) ?_;focus ((first|fail);done))|fail)|fail)
    ·skip
     iterate 5 ((conv=>whnf);refine⟨ABlk.le_refl _,?_⟩)
     (conv=>whnf);refine⟨gn_snoc (x:=⟨1,q,s0.ps.length,[],-1⟩) (congrArg (fun v=>[intV 1,intV v,intV (s0.ps.length:Int),.p .nils,intV (-1)]) hqv),?_⟩
     iterate 3 ((conv=>whnf);refine⟨ABlk.le_refl _,?_⟩)
     (conv=>whnf);exact trivial
   ·skip
    conv=>whnf
    refine Chk.mk ⟨rfl,rfl,by decide,by decide,rfl⟩ ?_
    conv=>whnf
    refine Chk.mk ⟨rfl,rfl⟩ ?_
    conv=>whnf
    refine Chk.mk ⟨rfl,rfl,rfl,allLt_ok ⟨trivial,rfl⟩⟩ ?_
    conv=>whnf
    refine Chk.mk ⟨rfl,rfl,rfl,rfl,(by show (s0.n+1+1)*56≤140737488355328;omega),(by show s0.n+1+1≤9223372036854775807;omega)⟩ ?_
    conv=>whnf
    refine hlz _ _ (Le.cutEnv 9 rfl rfl ⟨rfl,rfl,rfl,ofG_cl,rfl,nd_cl rfl,fun _ _=>rfl,row1_cl,row3_cl,trivial⟩ ?_ ?_) (ihz 2 (by decide) (by decide))
    ·skip
     repeat' (first|exact trivial|((conv=>whnf);first|exact trivial|refine⟨AV.le_refl _,?_⟩|refine⟨ABlk.le_refl _,?_⟩|(refine And.intro (AV.le_of_eq ?_) ?_;focus ((first|fail);done))|(refine And.intro (ABlk.le_of_eq ?_) ?_;focus ((first|fail);done))|fail)|fail)
    ·skip
     iterate 5 ((conv=>whnf);refine⟨ABlk.le_refl _,?_⟩)
     (conv=>whnf);refine⟨gn_snoc (x:=⟨2,q,s0.ps.length,[],-1⟩) (congrArg (fun v=>[intV 2,intV v,intV (s0.ps.length:Int),.p .nils,intV (-1)]) hqv),?_⟩
     iterate 3 ((conv=>whnf);refine⟨ABlk.le_refl _,?_⟩)
     (conv=>whnf);exact trivial
   ·skip
    conv=>whnf
    refine Chk.mk ⟨rfl,rfl,by decide,by decide,rfl⟩ ?_
    conv=>whnf
    refine Chk.mk ⟨rfl,rfl⟩ ?_
    conv=>whnf
    refine Chk.mk ⟨rfl,rfl,rfl,allLt_ok ⟨trivial,rfl⟩⟩ ?_
    conv=>whnf
    refine Chk.mk ⟨rfl,rfl,rfl,rfl,(by show (s0.n+2+1)*56≤140737488355328;omega),(by show s0.n+2+1≤9223372036854775807;omega)⟩ ?_
    conv=>whnf
    refine hlz _ _ (Le.cutEnv 9 rfl rfl ⟨rfl,rfl,rfl,ofG_cl,rfl,nd_cl rfl,fun _ _=>rfl,row1_cl,row3_cl,trivial⟩ ?_ ?_) (ihz 3 (by decide) (by decide))
    ·skip
     repeat' (first|exact trivial|((conv=>whnf);first|exact trivial|refine⟨AV.le_refl _,?_⟩|refine⟨ABlk.le_refl _,?_⟩|(refine And.intro (AV.le_of_eq ?_) ?_;focus ((first|fail);done))|(refine And.intro (ABlk.le_of_eq ?_) ?_;focus ((first|fail);done))|fail)|fail)
    ·skip
     iterate 5 ((conv=>whnf);refine⟨ABlk.le_refl _,?_⟩)
     (conv=>whnf);refine⟨gn_snoc (x:=⟨3,q,s0.ps.length,[],-1⟩) (congrArg (fun v=>[intV 3,intV v,intV (s0.ps.length:Int),.p .nils,intV (-1)]) hqv),?_⟩
     iterate 3 ((conv=>whnf);refine⟨ABlk.le_refl _,?_⟩)
     (conv=>whnf);exact trivial
   obtain⟨s1,hs1⟩:∃ s1,stepsS ns (s0.ps.length:Int) (q - s0.fst) s0.fst ⟨s0.n+3,endsS s0.n s0.f (q:Int) (s0.ps.length:Int),s0.of⟩=s1:=⟨_,rfl⟩
   conv=>whnf
   refine loop_up (ι:=B1) [1,2,3,6,7,8,10,11,14,35,36,37] (fun c=>[(15,intV c.i)]) (fun c=>[(2,grB c.s.n (s0.ps.length+1)),(3,.mp (.int .i64) (ofG c.s.of) []),(5,gnA c.s.n c.s.f)])
    (fun c=>s0.fst≤c.i∧c.i≤q∧stepsS ns (s0.ps.length:Int) (q - c.i) c.i c.s=s1∧c.s.n≤3+s0.n+c.i) (fun c=>q - c.i) ⟨s0.fst,⟨s0.n+3,endsS s0.n s0.f (q:Int) (s0.ps.length:Int),s0.of⟩⟩
    ⟨AV.le_refl _,trivial⟩ ⟨upLe1 rfl (ABlk.le_refl _),upLe1 rfl (ABlk.le_refl _),upLe1 rfl (ABlk.le_refl _),trivial⟩ ⟨Nat.le_refl _,hlo,hs1,by simp only;omega⟩ ?_
   rintro Z1 hlz1 ⟨i,t⟩ ⟨hi1,hi2,hst1,hn1⟩ ihz1
   simp only at hi1 hi2 hst1 hn1
   conv=>whnf
   refine two_dec (fun h4=>?_) (fun h4=>?_)
   ·have h4:i<q:=by
     have h4:(i:Int)<(nd ns root.toNat).kids.getD ((j:Int)).toNat 0:=h4
     rw [hqv] at h4;omega
    rw [show q - i=(q - (i+1))+1 by omega] at hst1
    simp only [stepsS] at hst1
    have hwi:=wzz (i:=i) (by omega)
    have hil:(i:Int)<(ns.length:Int):=by omega
    have hno:stB (nd ns i).k=false→stepsS ns (s0.ps.length:Int) (q - (i+1)) (i+1) t=s1:=fun e=>by rw [e] at hst1;exact hst1
    have hyes:stB (nd ns i).k=true→stepsS ns (s0.ps.length:Int) (q - (i+1)) (i+1) ⟨t.n+1,addG t.n t.f ⟨4,(i:Int),(s0.ps.length:Int),[],-1⟩,insO t.of i t.n⟩=s1:=fun e=>by rw [e] at hst1;exact hst1
    conv=>whnf
    refine Chk.mk ⟨Int.natCast_nonneg _,hil,rfl⟩ ?_
    conv=>whnf
    refine two_dec (fun h7=>?_) (fun h7=>?_)
    ·have h7:(nd ns i).k≥7:=h7
     conv=>whnf
     refine two_dec (fun h17=>?_) (fun h17=>?_)
     ·have h17:(nd ns i).k≤17:=h17
      have hst1:=hyes (stB_iff.2 ⟨h7,h17⟩)
      conv=>whnf
      refine Chk.mk ⟨rfl,rfl,rfl,allLt_ok ⟨trivial,rfl⟩⟩ ?_
      conv=>whnf
      refine Chk.mk ⟨rfl,rfl,rfl,rfl,(by show (t.n+1)*56≤140737488355328;omega),(by show t.n+1≤9223372036854775807;omega)⟩ ?_
      conv=>whnf
      refine hlz1 _ _ (Le.cutEnv 9 rfl rfl ⟨rfl,rfl,rfl,fun κ a h=>ofG_cl κ a ((congrFun (ofG_ins rfl) κ).symm.trans h),rfl,nd_cl rfl,fun _ _=>rfl,row1_cl,row3_cl,trivial⟩ ?_ ?_) (ihz1 ⟨i+1,⟨t.n+1,addG t.n t.f ⟨4,(i:Int),(s0.ps.length:Int),[],-1⟩,insO t.of i t.n⟩⟩ (by simp only;omega) ⟨by simp only;omega,by simp only;omega,hst1,by simp only;omega⟩)
      ·skip
       repeat' (first|exact trivial|((conv=>whnf);first|exact trivial|refine⟨AV.le_refl _,?_⟩|refine⟨ABlk.le_refl _,?_⟩|(refine And.intro (AV.le_of_eq ?_) ?_;focus ((first|exact congrArg intV hwi);done))|(refine And.intro (ABlk.le_of_eq ?_) ?_;focus ((first|exact congrArg intV hwi);done))|fail)|fail)
      ·skip
       iterate 3 ((conv=>whnf);refine⟨ABlk.le_refl _,?_⟩)
       (conv=>whnf);refine⟨ABlk.le_of_eq (congrArg (fun g=>ABlk.mp (.int .i64) g []) (ofG_ins rfl)),?_⟩
       iterate 1 ((conv=>whnf);refine⟨ABlk.le_refl _,?_⟩)
       (conv=>whnf);refine⟨gn_snoc (x:=⟨4,i,s0.ps.length,[],-1⟩) rfl,?_⟩
       iterate 3 ((conv=>whnf);refine⟨ABlk.le_refl _,?_⟩)
       (conv=>whnf);exact trivial
     ·have h17:¬ (nd ns i).k≤17:=h17
      have hst1:=hno (by simp [stB,h17])
      conv=>whnf
      refine hlz1 _ _ (Le.cutEnv 9 rfl rfl ⟨rfl,rfl,rfl,ofG_cl,rfl,fun _ _=>rfl,fun _ _=>rfl,row1_cl,row3_cl,trivial⟩ ?_ ?_) (ihz1 ⟨i+1,t⟩ (by simp only;omega) ⟨by simp only;omega,by simp only;omega,hst1,by simp only;omega⟩)
      ·skip
       repeat' (first|exact trivial|((conv=>whnf);first|exact trivial|refine⟨AV.le_refl _,?_⟩|refine⟨ABlk.le_refl _,?_⟩|(refine And.intro (AV.le_of_eq ?_) ?_;focus ((first|exact congrArg intV hwi);done))|(refine And.intro (ABlk.le_of_eq ?_) ?_;focus ((first|exact congrArg intV hwi);done))|fail)|fail)
      ·skip
       repeat' (first|exact trivial|((conv=>whnf);first|exact trivial|refine⟨AV.le_refl _,?_⟩|refine⟨ABlk.le_refl _,?_⟩|(refine And.intro (AV.le_of_eq ?_) ?_;focus ((first|fail);done))|(refine And.intro (ABlk.le_of_eq ?_) ?_;focus ((first|fail);done))|fail)|fail)
    ·have h7:¬ (nd ns i).k≥7:=h7
     have hst1:=hno (by simp [stB];omega)
     conv=>whnf
     refine hlz1 _ _ (Le.cutEnv 9 rfl rfl ⟨rfl,rfl,rfl,ofG_cl,rfl,fun _ _=>rfl,fun _ _=>rfl,row1_cl,row3_cl,trivial⟩ ?_ ?_) (ihz1 ⟨i+1,t⟩ (by simp only;omega) ⟨by simp only;omega,by simp only;omega,hst1,by simp only;omega⟩)
     ·skip
      repeat' (first|exact trivial|((conv=>whnf);first|exact trivial|refine⟨AV.le_refl _,?_⟩|refine⟨ABlk.le_refl _,?_⟩|(refine And.intro (AV.le_of_eq ?_) ?_;focus ((first|exact congrArg intV hwi);done))|(refine And.intro (ABlk.le_of_eq ?_) ?_;focus ((first|exact congrArg intV hwi);done))|fail)|fail)
     ·skip
      repeat' (first|exact trivial|((conv=>whnf);first|exact trivial|refine⟨AV.le_refl _,?_⟩|refine⟨ABlk.le_refl _,?_⟩|(refine And.intro (AV.le_of_eq ?_) ?_;focus ((first|fail);done))|(refine And.intro (ABlk.le_of_eq ?_) ?_;focus ((first|fail);done))|fail)|fail)
   ·have h4:q=i:=by
     have h4:¬ (i:Int)<(nd ns root.toNat).kids.getD ((j:Int)).toNat 0:=h4
     rw [hqv] at h4;omega
    subst h4
    rw [Nat.sub_self] at hst1
    simp only [stepsS] at hst1
    have hst1:=hst1.symm
    subst hst1
    obtain⟨l,b,hkids,hkb,_⟩:=rt.body hql h3
    obtain⟨b0,b1,b2⟩:=rt.kid q hql b (by rw [hkids];simp)
    have hkR:(ns.getD ((nd ns root.toNat).kids.getD ((j:Int)).toNat 0).toNat default).kids=l++[b]:=by rw [hqv];exact hkids
    have hll:l.length<4000:=by have:=rt.many q hql;rw [hkids] at this;simp at this;omega
    have hwl:IntKind.i64.wrap (((ns.getD ((nd ns root.toNat).kids.getD ((j:Int)).toNat 0).toNat default).kids.length:Int) - 1)=(l.length:Int):=by
     rw [hkR,show ((l++[b]).length:Int) - 1=(l.length:Int) by simp,w64 ⟨by omega,by omega⟩]
    have hc0:0≤IntKind.i64.wrap (((ns.getD ((nd ns root.toNat).kids.getD ((j:Int)).toNat 0).toNat default).kids.length:Int) - 1):=by rw [hwl];omega
    have hc1:IntKind.i64.wrap (((ns.getD ((nd ns root.toNat).kids.getD ((j:Int)).toNat 0).toNat default).kids.length:Int) - 1)<((ns.getD ((nd ns root.toNat).kids.getD ((j:Int)).toNat 0).toNat default).kids.length:Int):=by rw [hwl,hkR];simp;omega
    have hbq:(ns.getD ((nd ns root.toNat).kids.getD ((j:Int)).toNat 0).toNat default).kids.getD (IntKind.i64.wrap (((ns.getD ((nd ns root.toNat).kids.getD ((j:Int)).toNat 0).toNat default).kids.length:Int) - 1)).toNat 0=(b.toNat:Int):=by
     rw [hwl,hkR];simp [Int.toNat_of_nonneg b0]
    have hfo:IntKind.i64.wrap (IntKind.i64.wrap (((s0.n+3:Nat):Int) - 3)+1)=(s0.n:Int)+1:=by
     rw [show (((s0.n+3:Nat):Int) - 3)=(s0.n:Int) by omega,w64 (n:=(s0.n:Int)) ⟨by omega,by omega⟩,w64 ⟨by omega,by omega⟩]
    have hhd:IntKind.i64.wrap (IntKind.i64.wrap (((s0.n+3:Nat):Int) - 3)+2)=(s0.n:Int)+2:=by
     rw [show (((s0.n+3:Nat):Int) - 3)=(s0.n:Int) by omega,w64 (n:=(s0.n:Int)) ⟨by omega,by omega⟩,w64 ⟨by omega,by omega⟩]
    have hen:IntKind.i64.wrap (((s0.n+3:Nat):Int) - 3)=(s0.n:Int):=by
     rw [show (((s0.n+3:Nat):Int) - 3)=(s0.n:Int) by omega,w64 (n:=(s0.n:Int)) ⟨by omega,by omega⟩]
    have S:=steps_ok ns (s0.ps.length:Int) (q - s0.fst) s0.fst ⟨s0.n+3,endsS s0.n s0.f (q:Int) (s0.ps.length:Int),s0.of⟩
    rw [hs1] at S
    have hSle:=S.le
    simp only at hSle
    have hof:OfOk ns s1.of s1.n b.toNat:=fun i g1 g2 g3=>by
     have:=sh.hout
     obtain⟨x,a1,_,a3,_⟩:=S.new i (by omega) (by omega) g3
     exact⟨x,a1,a3⟩
    obtain⟨bg,G,hbl⟩:∃ bg G,flBlock ns s1.of ((s0.n:Int)+1) 4000 b.toNat ((s0.n:Int)+1) ((s0.n:Int)+2) s1.f=(bg,G):=⟨_,_,rfl⟩
    have e3:stepB ns s0 q=⟨s1.n,setG G s0.n [bg] (G s0.n).ra,s1.of,s0.ps++[(q:Int)],q+1⟩:=by
     have hbody:(nd ns q).kids.getD ((nd ns q).kids.length - 1) 0=b:=by rw [hkids];simp
     simp only [stepB,beq_iff_eq.2 h3,layS,hs1,hbody,hbl]
    rw [e3] at hnext hbd
    have he0:0≤IntKind.i64.wrap (((s0.n+3:Nat):Int) - 3):=by rw [hen];omega
    have he1:IntKind.i64.wrap (((s0.n+3:Nat):Int) - 3)<(s1.n:Int):=by rw [hen];omega
    conv=>whnf
    refine Chk.mk ⟨hb0,hb1,rfl⟩ ?_
    conv=>whnf
    refine Chk.mk ⟨hc0,hc1,rfl⟩ ?_
    conv=>whnf
    refine⟨ns,root,s1.n,s1.f,s1.of,(s0.n:Int)+1,s0.ps.length+1,_,b.toNat,(s0.n:Int)+1,(s0.n:Int)+2,_,_,_,_,_,bg,G,rfl,rfl,hbq,hfo,hhd,hfo,rt,by omega,hkb,hof,hbl,?_⟩
    conv=>whnf
    repeat ((refine And.intro ?_ ?_);(focus ((conv=>whnf);first|done|exact⟨⟨hc0,hc1,rfl⟩,by conv=>whnf⟩|exact⟨⟨rfl,Nat.zero_add _,he0,he1,rfl⟩,by conv=>whnf⟩));(conv=>whnf))
    refine Chk.mk ⟨rfl,Nat.zero_add _,he0,he1,rfl⟩ ?_
    conv=>whnf
    refine Chk.mk ⟨rfl,rfl⟩ ?_
    conv=>whnf
    have hpl2:s0.ps.length+1=(s0.ps++[(q:Int)]).length:=by simp
    have hea:0+(IntKind.i64.wrap (((s0.n+3:Nat):Int) - 3)).toNat=s0.n:=by rw [hen];simp
    refine hle _ _ (Le.trans (Le.fz7 (r:=2) (b5':=gnA s1.n (setG G s0.n [bg] (G s0.n).ra)) (kidF [bg]) rfl (row1 rfl) (.inr ⟨_,_,_,_,_,_,rfl,rfl,gn_fz rfl rfl fun i=>gn_upd1 hea rfl i⟩)) (Le.cutEnv 7 rfl rfl stK_cl ?_ ?_))
     (ih ⟨⟨s1.n,setG G s0.n [bg] (G s0.n).ra,s1.of,s0.ps++[(q:Int)],q+1⟩,j+1,(s0.n:Int)+1⟩ (by simp only;omega) ⟨by simp only;omega,hnext,hbd,by simp only [List.length_append,List.length_cons,List.length_nil];omega⟩)
    ·skip
     repeat' (first|exact trivial|((conv=>whnf);first|exact trivial|refine⟨AV.le_refl _,?_⟩|refine⟨ABlk.le_refl _,?_⟩|(refine And.intro (AV.le_of_eq ?_) ?_;focus ((first|exact congrArg intV hw1|exact congrArg intV hwq);done))|(refine And.intro (ABlk.le_of_eq ?_) ?_;focus ((first|exact congrArg intV hw1|exact congrArg intV hwq);done))|fail)|fail)
    ·skip
     repeat' (first|exact trivial|((conv=>whnf);first|exact trivial|refine⟨AV.le_refl _,?_⟩|refine⟨ABlk.le_refl _,?_⟩|(refine And.intro (AV.le_of_eq ?_) ?_;focus ((first|exact congrArg (grB s1.n) hpl2|exact congrArg (fun m=>rowA m fun i=>(s0.ps++[(q:Int)]).getD i 0) hpl2);done))|(refine And.intro (ABlk.le_of_eq ?_) ?_;focus ((first|exact congrArg (grB s1.n) hpl2|exact congrArg (fun m=>rowA m fun i=>(s0.ps++[(q:Int)]).getD i 0) hpl2);done))|fail)|fail)
  ·have h3:(nd ns q).k≠3:=by
    have h3:(nd ns ((nd ns root.toNat).kids.getD ((j:Int)).toNat 0).toNat).k≠3:=h3
    rw [hqv] at h3;exact h3
   have e3:stepB ns s0 q=⟨s0.n,s0.f,s0.of,s0.ps,q+1⟩:=by simp only [stepB,beq_eq_false_iff_ne.2 h3]
   rw [e3] at hnext hbd
   conv=>whnf
   refine hle _ _ (Le.cutEnv 7 rfl rfl stK_cl ?_ ?_) (ih ⟨⟨s0.n,s0.f,s0.of,s0.ps,q+1⟩,j+1,ex⟩ (by simp only;omega) ⟨by simp only;omega,hnext,hbd,by simp only;omega⟩)
   ·skip
    repeat' (first|exact trivial|((conv=>whnf);first|exact trivial|refine⟨AV.le_refl _,?_⟩|refine⟨ABlk.le_refl _,?_⟩|(refine And.intro (AV.le_of_eq ?_) ?_;focus ((first|exact congrArg intV hw1|exact congrArg intV hwq);done))|(refine And.intro (ABlk.le_of_eq ?_) ?_;focus ((first|exact congrArg intV hw1|exact congrArg intV hwq);done))|fail)|fail)
   ·skip
    repeat' (first|exact trivial|((conv=>whnf);first|exact trivial|refine⟨AV.le_refl _,?_⟩|refine⟨ABlk.le_refl _,?_⟩|(refine And.intro (AV.le_of_eq ?_) ?_;focus ((first|fail);done))|(refine And.intro (ABlk.le_of_eq ?_) ?_;focus ((first|fail);done))|fail)|fail)
 ·obtain rfl:j=(nd ns root.toNat).kids.length:=by have h:¬ (j:Int)<((nd ns root.toNat).kids.length:Int):=h;omega
  rw [List.drop_length] at hbd
  simp only [buildR] at hbd
  subst hbd
  conv=>whnf
  exact hr _ _ _ _ (Wk1.fzAll (fzv_graph rfl rfl)) rfl hk
set_option maxHeartbeats 1000000
theorem small8_ok:COk 27 (cSmall 300):=by
 rintro args K k ⟨ns,root,rfl,hk⟩
 refine frame0P g0_ok 19 rfl fun Q hr=>?_
 conv=>whnf
 refine two_dec (fun h=>?_) (fun h=>?_)
 ·have h:¬ ns.length≤300:=by have h:(ns.length:Int)>300:=h;omega
  rw [show smallS 300 ns=false by simp [smallS,h]] at hk
  conv=>whnf
  exact hr _ _ rfl hk
 have h:ns.length≤300:=by have h:¬ (ns.length:Int)>300:=h;omega
 conv=>whnf
 refine loop_up (ι:=Nat) [1] (fun i=>[(3,intV i)]) (fun _=>[]) (fun i=>i≤ns.length∧(ns.drop i).all (fun n=>decide (n.kids.length≤300)&&decide (n.tx.length≤200))=smallS 300 ns) (fun i=>ns.length - i) 0 ⟨AV.le_refl _,trivial⟩ trivial ⟨Nat.zero_le _,by simp [smallS,h]⟩ ?_
 rintro Y hle i ⟨hi,he⟩ ih
 conv=>whnf
 refine two_dec (fun h2=>?_) (fun h2=>?_)
 ·have h2:i<ns.length:=by have h2:(i:Int)<(ns.length:Int):=h2;omega
  have hw1:=wzz (i:=i) (by omega)
  rw [List.drop_eq_getElem_cons h2,List.all_cons] at he
  have e1:ns[i]=nd ns i:=by simp [nd,h2]
  rw [e1] at he
  conv=>whnf
  refine⟨⟨by omega,by omega,rfl⟩,?_⟩
  conv=>whnf
  refine two_dec (fun h3=>?_) (fun h3=>?_)
  ·have h3:¬ (nd ns i).kids.length≤300:=by have h3:((nd ns i).kids.length:Int)>300:=h3;omega
   rw [decide_eq_false h3,Bool.false_and,Bool.false_and] at he
   rw [← he] at hk
   conv=>whnf
   exact hr _ _ rfl hk
  have h3:(nd ns i).kids.length≤300:=by have h3:¬ ((nd ns i).kids.length:Int)>300:=h3;omega
  rw [decide_eq_true h3,Bool.true_and] at he
  conv=>whnf
  refine⟨⟨by omega,by omega,rfl⟩,?_⟩
  conv=>whnf
  refine two_dec (fun h4=>?_) (fun h4=>?_)
  ·have h4:¬ (nd ns i).tx.length≤200:=by have h4:((nd ns i).tx.length:Int)>200:=h4;omega
   rw [decide_eq_false h4,Bool.false_and] at he
   rw [← he] at hk
   conv=>whnf
   exact hr _ _ rfl hk
  have h4:(nd ns i).tx.length≤200:=by have h4:¬ ((nd ns i).tx.length:Int)>200:=h4;omega
  rw [decide_eq_true h4,Bool.true_and] at he
  conv=>whnf
  refine hle _ _ (Le.env ?_ ?_) (ih (i+1) (by omega) ⟨by omega,he⟩)
  ·skip
   repeat' (first|exact trivial|((conv=>whnf);first|exact trivial|refine⟨AV.le_refl _,?_⟩|refine⟨ABlk.le_refl _,?_⟩|(refine And.intro (AV.le_of_eq ?_) ?_;focus ((first|exact congrArg intV hw1);done))|(refine And.intro (ABlk.le_of_eq ?_) ?_;focus ((first|exact congrArg intV hw1);done))|fail)|fail)
  ·skip
   repeat' (first|exact trivial|((conv=>whnf);first|exact trivial|refine⟨AV.le_refl _,?_⟩|refine⟨ABlk.le_refl _,?_⟩|(refine And.intro (AV.le_of_eq ?_) ?_;focus ((first|fail);done))|(refine And.intro (ABlk.le_of_eq ?_) ?_;focus ((first|fail);done))|fail)|fail)
 ·obtain rfl:i=ns.length:=by have h2:¬ (i:Int)<(ns.length:Int):=h2;omega
  rw [List.drop_length,List.all_nil] at he
  rw [← he] at hk
  conv=>whnf
  exact hr _ _ rfl hk
theorem eSmall8_ok:COk 27 (eSmall 300):=by
 rintro args K k ⟨ns,root,v,h1,rfl,h3⟩
 exact small8_ok args K k ⟨ns,root,h1,h3⟩
def pr8:List Nd:=[⟨5,1,14,[120],[]⟩,⟨18,0,32,[108,111],[]⟩,⟨9,0,25,[120],[1]⟩,⟨22,0,39,[120],[]⟩,⟨20,1,43,[],[]⟩,⟨27,0,41,[60],[3,4]⟩,⟨18,0,51,[108,111],[]⟩,⟨22,0,54,[120],[]⟩,⟨10,0,47,[],[6,7]⟩,⟨6,0,45,[],[8]⟩,⟨6,0,36,[],[]⟩,⟨11,0,36,[],[5,9,10]⟩,⟨6,0,12,[],[2,11]⟩,⟨3,0,0,[109,97,105,110],[0,12]⟩,⟨1,0,0,[],[13]⟩]
def gr8:List GN:=[⟨1,13,0,[3],-1⟩,⟨2,13,0,[],-1⟩,⟨3,13,0,[],-1⟩,⟨4,2,0,[5],-1⟩,⟨4,8,0,[1],-1⟩,⟨4,11,0,[4,1],-1⟩]
def bs8:BSt:=⟨6,fun i=>gr8.getD i default,fun _=>none,[13],14⟩
theorem pr8_eq:proS [112,114,111,99,32,109,97,105,110,40,41,32,123,32,118,97,114,32,120,32,105,110,116,59,32,120,32,61,32,105,110,32,108,111,59,32,105,102,32,120,32,60,32,49,32,123,32,111,117,116,32,108,111,32,120,59,32,125,32,125]=.ok pr8 14 2:=by kernel_rfl
theorem ck8_eq:checkTree pr8 14=(0,0):=by kernel_rfl
theorem pr8_tame:Tame pr8:=small_tame (m:=400) (by decide) (by kernel_rfl)
def gnB (a b:GN):Bool:=a.k==b.k&&(a.pl==b.pl&&(a.pr==b.pr&&(a.nx==b.nx&&a.ra==b.ra)))
theorem gnB_eq {a b:GN} (h:gnB a b=true):a=b:=by
 simp only [gnB,Bool.and_eq_true,beq_iff_eq] at h
 obtain⟨h1,h2,h3,h4,h5⟩:=h
 cases a;cases b
 simp only at h1 h2 h3 h4 h5
 subst h1 h2 h3 h4 h5
 rfl
theorem bs8_n:(buildS pr8 14).n=6:=by kernel_rfl
theorem bs8_ps:(buildS pr8 14).ps=[13]:=by kernel_rfl
theorem bs8_all:(List.range 6).all (fun i=>gnB ((buildS pr8 14).f i) (gr8.getD i default))=true:=by kernel_rfl
theorem bs8_f:∀ i,i<6→(buildS pr8 14).f i=gr8.getD i default:=fun i hi=>by
 have:=List.all_eq_true.1 bs8_all i (List.mem_range.2 hi)
 exact gnB_eq this
theorem agg_le {l l':List AV} (h:lesL l l'):(AV.agg l).le (.agg l'):=fun w m u hV=>by
 obtain⟨h1,h2⟩:=h.get
 cases hV with
 | agg _ A hA hv=>exact .agg _ A (by omega) fun j hj hj'=>h2 j (by omega) hj _ _ _ (hv j (by omega) hj')
def pvLe (a b:PV):Prop:=∀ w I u,VP w I a u→VP w I b u
theorem sl_leP {sz n n':Nat} {f f':Nat→List PV} (hn:n'=n) (h:∀ i,i<n→(f i).length=(f' i).length∧∀ j (hj:j<(f i).length) (hj':j<(f' i).length),pvLe (f i)[j] (f' i)[j]):(AV.p (.sl sz n f)).le (.p (.sl sz n' f')):=fun w m u hv=>by
 subst hn
 cases hv with
 | p _ _ hv =>
  cases hv with
  | sl0 _ _ a c=>exact .p _ _ (.sl0 sz f' a c)
  | sl _ _ _ b o c u hI hcap hc hv =>
   refine .p _ _ (.sl sz n' f' b o c u hI hcap (fun i hi j hj=>?_) (fun i hi j hj=>?_))
   ·exact hc i hi j (by rw [(h i hi).1];exact hj)
   ·exact (h i hi).2 j (by rw [(h i hi).1];exact hj) hj _ _ _ (hv i hi j (by rw [(h i hi).1];exact hj))
theorem pvLe_refl (a:PV):pvLe a a:=fun _ _ _ h=>h
theorem nxP_le (l:List Int):pvLe (nxP l) (.sl 1 l.length (kidF l)):=fun w I u h=>by
 cases l with
 | nil =>
  cases h
  exact .sl0 ..
 | cons a l=>exact h
theorem gnF_le {f f':Nat→GN} {n n':Nat} (hn:n'=n) (hf:∀ i,i<n→f i=f' i):(AV.p (.sl 5 n (gnF f))).le (.p (.sl 5 n' (gnW f'))) :=
 sl_leP hn fun i hi=>⟨rfl,fun j hj hj'=>by
  have hfi:=hf i hi
  rcases j with _|_|_|_|_|j
  ·show pvLe (.int .i64 (f i).k) (.int .i64 (f' i).k);rw [hfi];exact pvLe_refl _
  ·show pvLe (.int .i64 (f i).pl) (.int .i64 (f' i).pl);rw [hfi];exact pvLe_refl _
  ·show pvLe (.int .i64 (f i).pr) (.int .i64 (f' i).pr);rw [hfi];exact pvLe_refl _
  ·show pvLe (nxP (f i).nx) (.sl 1 (f' i).nx.length (kidF (f' i).nx));rw [hfi];exact nxP_le _
  ·show pvLe (.int .i64 (f i).ra) (.int .i64 (f' i).ra);rw [hfi];exact pvLe_refl _
  ·simp [gnF] at hj;omega⟩
theorem graph_weak (s:BSt):(graphV s).le (graphW s):=agg_le ⟨gnF_le rfl fun _ _=>rfl,AV.le_refl _,trivial⟩
def eBuildW:AC:=fun args K k=>∃ ns root a e s,args=[treeV ns root]∧Tame ns∧checkTree ns root=(a,e)∧buildS ns root=s∧(e≠0→k (.ret (.tup [graph0,intV 1])) K)∧(e=0→k (.ret (.tup [graphW s,intV 0])) K)
theorem eBuildW_ok:COk 28 eBuildW:=by
 rintro args K k ⟨ns,root,a,e,s,rfl,ta,hc,hs,hk1,hk0⟩
 by_cases he:e=0
 ·refine ACalls.post (k:=fun ao K1=>ao=.ret (.tup [graphV s,intV 0])∧K1=K) (build_okW _ _ _ ⟨ns,root,a,e,s,rfl,ta,hc,hs,fun h=>absurd he h,fun _=>⟨rfl,rfl⟩⟩) ?_
  rintro ao K1 ⟨rfl,rfl⟩
  exact⟨.tup [graphW s,intV 0],K1,Wk1.le (AV.tup_le ⟨graph_weak s,AV.le_refl _,trivial⟩) (lesK.refl _),hk0 he⟩
 ·exact build_okW _ _ _ ⟨ns,root,a,e,s,rfl,ta,hc,hs,hk1,fun h=>absurd h he⟩
def eBuildL:AC:=fun args K k=>∃ ns root a s s',args=[treeV ns root]∧Tame ns∧checkTree ns root=(a,0)∧buildS ns root=s∧s.n=s'.n∧s.ps=s'.ps∧(∀ i,i<s.n→s.f i=s'.f i)∧k (.ret (.tup [graphW s',intV 0])) K
theorem eBuildL_ok:COk 28 eBuildL:=by
 rintro args K k ⟨ns,root,a,s,s',rfl,ta,hc,hs,hn,hp,hf,hk⟩
 refine ACalls.post (k:=fun ao K1=>ao=.ret (.tup [graphV s,intV 0])∧K1=K) (build_okW _ _ _ ⟨ns,root,a,0,s,rfl,ta,hc,hs,fun h=>absurd rfl h,fun _=>⟨rfl,rfl⟩⟩) ?_
 rintro ao K1 ⟨rfl,rfl⟩
 exact⟨.tup [graphW s',intV 0],K1,Wk1.le (AV.tup_le ⟨agg_le ⟨gnF_le hn.symm hf,AV.le_of_eq (by rw [hp]),trivial⟩,AV.le_refl _,trivial⟩) (lesK.refl _),hk⟩
def gS8:AG:=gput 43 (cTop proS) (gput 28 eBuildL (gput 33 (eEnds 1) (gput 35 (eEnds 2) (gput 36 (eEnds 3) g0))))
theorem gS8_ok:GOk Tryz.prog gS8:=gput_ok Program_ok (gput_ok eBuildL_ok (gput_ok entry_ok (gput_ok exit_ok (gput_ok fail_ok8 g0_ok))))
theorem shown8_ok:COk 26 cShown7:=by
 rintro args K k ⟨rfl,hk⟩
 refine frame0P gS8_ok 19 rfl fun Q hr=>?_
 conv=>whnf
 refine⟨_,rfl,by decide,?_⟩
 rw [pr8_eq]
 conv=>whnf
 refine⟨pr8,14,0,_,bs8,rfl,pr8_tame,ck8_eq,rfl,bs8_n,bs8_ps,fun i hi=>bs8_f i (by rw [bs8_n] at hi;exact hi),?_⟩
 conv=>whnf
 repeat
  (refine⟨⟨by decide,by decide,rfl⟩,?_⟩
   conv=>whnf)
 refine loop_up (ι:=Nat) [0,1] (fun i=>[(5,intV i)]) (fun _=>[]) (fun i=>i≤1) (fun i=>1 - i) 0 ⟨AV.le_refl _,trivial⟩ trivial (by decide) ?_
 rintro Y hle i hi ih
 have hi:i=0∨i=1:=by omega
 rcases hi with rfl|rfl
 ·conv=>whnf
  refine⟨⟨by decide,by decide,rfl⟩,?_⟩
  conv=>whnf
  refine Chk.mk ⟨rfl,rfl,by decide,by decide,rfl⟩ ?_
  conv=>whnf
  refine Chk.mk ⟨rfl,rfl⟩ ?_
  conv=>whnf
  refine hle _ _ (Le.env ?_ ?_) (ih 1 (by decide) (by decide))
  ·skip
   repeat' (first|exact trivial|((conv=>whnf);first|exact trivial|refine⟨AV.le_refl _,?_⟩|refine⟨ABlk.le_refl _,?_⟩|(refine And.intro (AV.le_of_eq ?_) ?_;focus ((first|fail);done))|(refine And.intro (ABlk.le_of_eq ?_) ?_;focus ((first|fail);done))|fail)|fail)
  ·skip
   repeat' (first|exact trivial|((conv=>whnf);first|exact trivial|refine⟨AV.le_refl _,?_⟩|refine⟨ABlk.le_refl _,?_⟩|(refine And.intro (AV.le_of_eq ?_) ?_;focus ((first|fail);done))|(refine And.intro (ABlk.le_of_eq ?_) ?_;focus ((first|fail);done))|fail)|fail)
 ·conv=>whnf
  repeat
   (refine⟨⟨by decide,by decide,rfl⟩,?_⟩
    conv=>whnf)
  refine⟨bs8,0,0,rfl,by decide,by kernel_rfl,?_⟩
  conv=>whnf
  refine⟨bs8,0,1,rfl,by decide,by kernel_rfl,?_⟩
  conv=>whnf
  refine⟨bs8,0,2,rfl,by decide,by kernel_rfl,?_⟩
  conv=>whnf
  exact hr _ _ rfl hk
end Go.Proofs.YtojjkleplnijaaaGreatDoor
namespace Go.Ru
theorem crS_le (ns:List Nd) (root q num:Int):∀ (m i:Nat) (s:Nat×(Nat→GN)),s.1≤(crS ns root q num m i s).1:=by
 intro m
 induction m with
 | zero=>intro i s;exact Nat.le_refl _
 | succ m ih =>
  intro i s
  simp only [crS]
  refine Nat.le_trans ?_ (ih (i+1) _)
  split <;> simp
theorem crP_le (ns:List Nd) (root:Int):∀ (l:List Int) (c:Int) (s:Nat×(Nat→GN)),s.1≤(crP ns root l c s).1:=by
 intro l
 induction l with
 | nil=>intro c s;exact Nat.le_refl _
 | cons q l ih =>
  intro c s
  simp only [crP]
  refine Nat.le_trans ?_ (ih _ _)
  have:=crS_le ns root q c ns.length 0 (s.1+3,endsS s.1 s.2 q c)
  simp only at this
  omega
def doneS (ns:List Nd) (root:Int) (s:BSt) (c y:Nat):Prop:=∃ c' x b,∃ q:Nat,c'<c∧c'<s.ps.length∧x+3≤s.n∧s.ps[c']?=some (q:Int)∧ProcL ns root (atO s.of) s.f c' x q b∧(y=x∨stS ns (atO s.of) b y)
theorem doneS_succ {ns:List Nd} {root:Int} {s:BSt} (B:Build8 ns root s) {c x q b:Nat} (hc:c<s.ps.length) (hx:x+3≤s.n) (hq:s.ps[c]?=some (q:Int)) (P:ProcL ns root (atO s.of) s.f c x q b) (y:Nat) :
  doneS ns root s (c+1) y↔(doneS ns root s c y∨stS ns (atO s.of) b y)∨y=x:=by
 constructor
 ·rintro⟨c',x',b',q',h1,h2,h3,h4,P',h5⟩
  by_cases e:c'<c
  ·exact .inl (.inl ⟨c',x',b',q',e,h2,h3,h4,P',h5⟩)
  ·obtain rfl:c'=c:=by omega
   rw [hq] at h4
   injection h4 with h4
   obtain rfl:q=q':=by omega
   have hb:b'=b:=by
    have h1:=P.body
    have h2:=P'.body
    rw [h1] at h2;omega
   have hx':x'=x:=by
    have h1:=(B.ends c' x q b hc hx P).1
    have h2:=(B.ends c' x' q b' hc h3 P').1
    rw [h1] at h2;omega
   subst hb hx'
   rcases h5 with h5|h5
   ·exact .inr h5
   ·exact .inl (.inr h5)
 ·rintro ((⟨c',x',b',q',h1,h⟩|h)|h)
  ·exact⟨c',x',b',q',by omega,h⟩
  ·exact⟨c,x,b,q,by omega,hc,hx,hq,P,.inr h⟩
  ·exact⟨c,x,b,q,by omega,hc,hx,hq,P,.inl h⟩
theorem done_all {ns:List Nd} {root:Int} {s:BSt} (B:Build8 ns root s) {G:Nat→GN} (hG:∀ y,y<s.n→G y=baseG (s.f y)):∀ y,y<s.n→mixF (doneS ns root s s.ps.length) s.f G y=s.f y:=fun y hy=>by
 by_cases h:doneS ns root s s.ps.length y
 ·exact mixF_yes h
 ·rw [mixF_no h,hG y hy]
  rcases B.cover y hy with e|⟨c,x,q,b,h1,h2,h3,P,h4⟩
  ·exact e.symm
  ·exact absurd ⟨c,x,b,q,h1,h1,h2,h3,P,h4⟩ h
end Go.Ru
namespace Go.AE
theorem Le.fz4 {kb:Nat} {t:List (Nat×AV)} {b0 b1 b2 b3 b3':ABlk} {Y:List ABlk} {r ty sz n:Nat} {f:Nat→List AV} (g:Nat→List PV) (hr:nth Y r=some (.arr ty sz 0 n f)) (hg:∀ i,i<n→f i=pvs (g i))
  (h3:fsxB (r+4) sz n g b3 b3'):Le kb ⟨t,b0::b1::b2::b3::Y⟩ ⟨t,b0::b1::b2::b3'::setN Y r .dead⟩ :=
 Le.fzx (r:=r+4) g hr hg ⟨.inl (.inl (ABlk.le_refl _)),.inl (.inl (ABlk.le_refl _)),.inl (.inl (ABlk.le_refl _)),h3,fsxK.refl _ _ _ _ _⟩
end Go.AE
namespace Go.Proofs.YtojjkleplnijaaaGreatDoor
open Go.AE Go.Ru
set_option maxRecDepth 100000
set_option maxHeartbeats 1000000
theorem frameN {G:AG} (hG:GOk Tryz.prog G) (n:Nat) {f:FuncId} {args:List AV} {K:List ABlk} {k:AO→List ABlk→Prop} (hcl:AV.dns K.length args=args)
  (h:∀ Q:AO→List ABlk→Prop,(∀ v K' v' K2,Wk1 0 v K' v' K2→nlK K2→k (.ret (v'.up K.length)) (K++upsB K.length K2)→Q (.ret v) K')→acall1 T0 G n f args [] Q):ACalls Tryz.prog f args K k:=by
 have e:ACalls Tryz.prog f args (K++[]) k:=by
  refine ACalls.shift (n:=K.length) (Y:=K) (K1:=[]) rfl trivial ?_
  rw [hcl]
  refine ACalls.post (k:=fun ao K1=>∃ v v' K2,ao=.ret v∧Wk1 0 v K1 v' K2∧nlK K2∧k (.ret (v'.up K.length)) (K++upsB K.length K2)) (call_ok hG n f args [] _ (h _ ?_)) ?_
  ·intro v K' v' K2 h1 h2 h3
   exact⟨v,v',K2,rfl,h1,h2,h3⟩
  ·rintro ao K1 ⟨v,v',K2,rfl,h1,h2,h3⟩
   exact⟨v',K2,h1,h2,h3⟩
 rwa [List.append_nil] at e
def rgB (s:BSt):ABlk:=.box 50 [.p (.sl 5 s.n (gnW s.f)),.p (.sl 1 s.ps.length (kidF s.ps))]
def gBd8:AG:=gput 10 eRCheck (gput 66 cRParents (gput 34 cREnd (gput 69 (cREnt 4000) (gput 68 (cRLay 4000) g0))))
theorem gBd8_ok:GOk Tryz.prog gBd8:=gput_ok rcheck_ok (gput_ok rparents_ok (gput_ok rend8_ok (gput_ok (rent8_ok (rbeg8_ok 4000)) (gput_ok (rlay8_ok (rstm8_ok 4000)) g0_ok))))
def eRBuild:AC:=fun args K k=>∃ ns root a e s,args=[treeV ns root]∧Tame ns∧Kt ns∧checkTree ns root=(a,e)∧buildS ns root=s∧(e≠0→k (.ret (.tup [.p .nilp,intV 1])) K)∧(e=0→k (.ret (.tup [.ptr (1+K.length) 0 1 0 0,intV 0])) (K++[tbx ns root,rgB s]))
theorem psR_cl {l:List Int} {f:Nat→List AV} {m:Nat} (hf:AV.cls m (f 0)=true):(ABlk.arr 3 1 0 (l.length+1) (catF l.length (fun i=>pvs (rowF (fun i=>l.getD i 0) i)) f)).cl m:=fun i hi=>by
 by_cases h:i<l.length
 ·rw [catF_lt h];rfl
 ·obtain rfl:i=l.length:=by omega
  rw [catF_ge (Nat.le_refl _),Nat.sub_self];exact hf
theorem gnR_snoc {n:Nat} {G:Nat→GN} {x:GN} {f:Nat→List AV} (hf:f 0=pvs (gnF (fun _=>x) 0)) :
  (ABlk.arr 54 5 0 (n+1) (catF n (fun i=>pvs (gnF G i)) f)).le (gnR (n+1) (addG n G x)):=by
 refine ABlk.arr_eq rfl fun i hi=>?_
 by_cases h:i<n
 ·rw [catF_lt h]
  simp [gnF,addG,show i≠n by omega]
 ·obtain rfl:i=n:=by omega
  rw [catF_ge (Nat.le_refl _),Nat.sub_self,hf]
  simp [gnF,addG]
structure N8 where
 c:Nat
 n:Nat
 G:Nat→GN
def gB8 (n np:Nat):ABlk:=.box 50 [.slr 3 0 0 n,.slr 2 0 0 np]
structure P8 where
 i:Nat
 l:List Int
def grL (l:List Int):ABlk:=.box 50 [.p .nils,.slr 2 0 0 l.length]
theorem fin8 {ns:List Nd} {root:Int} {s:BSt} {F:Nat→GN} {v:AV} (hF:∀ i,i<s.n→F i=s.f i) (hv:v.cl 2=true) :
  Wk1 0 v (rGK ns root s.n F s.ps.length (fun i=>s.ps.getD i 0)) v [tbx ns root,rgB s] :=
 Wk1.trans (Wk1.fzx (r:=2) (K':=[tbx ns root,.box 50 [.slr 3 0 0 s.n,.p (.sl 1 s.ps.length (kidF s.ps))],.dead,gnR s.n F]) (kidF s.ps) rfl (fun _ _=>rfl)
   ⟨.inl (.inl (ABlk.le_refl _)),.inl (.inr ⟨_,_,_,rfl,rfl,.inl (AV.le_refl _),.inr ⟨rfl,rfl⟩,trivial⟩),.inl (.inl (ABlk.le_refl _)),.inl (.inl (ABlk.le_refl _)),trivial⟩ (AV.le_refl _))
  (Wk1.trans (Wk1.fzx (r:=3) (K':=[tbx ns root,.box 50 [.p (.sl 5 s.n (gnF F)),.p (.sl 1 s.ps.length (kidF s.ps))],.dead,.dead]) (gnF F) rfl (fun _ _=>rfl)
   ⟨.inl (.inl (ABlk.le_refl _)),.inl (.inr ⟨_,_,_,rfl,rfl,.inr ⟨rfl,rfl⟩,.inl (AV.le_refl _),trivial⟩),.inl (.inl (ABlk.le_refl _)),.inl (.inl (ABlk.le_refl _)),trivial⟩ (AV.le_refl _))
  (Wk1.trans (Wk1.cut 2 (Nat.zero_le _) hv ⟨rfl,rfl,trivial⟩) (Wk1.le (AV.le_refl _) ⟨ABlk.le_refl _,ABlk.box_le ⟨gnF_le rfl hF,AV.le_refl _,trivial⟩,trivial⟩)))
theorem rbuild_ok:COk 29 eRBuild:=by
 rintro args K k ⟨ns,root,a,e,s,rfl,ta,kt,hc,hs,hk1,hk0⟩
 by_cases he:e=0
 case neg =>
  refine frameN gBd8_ok 19 rfl fun Q hr=>?_
  conv=>whnf
  refine⟨ns,root,a,e,rfl,ta,kt,hc,?_⟩
  conv=>whnf
  refine two_ne (fun _=>?_) (fun h=>absurd h he)
  conv=>whnf
  exact hr _ _ _ [] (Wk1.cut 0 (Nat.le_refl 0) rfl trivial) trivial (by rw [show upsB K.length []=[] from rfl,List.append_nil];exact hk1 he)
 subst he
 have hk:=hk0 rfl
 clear hk0 hk1
 have rt:=right_of (check_right hc)
 have hlen:=rt.len
 have hrt:=rt.rt
 have hpos:=rt.pos
 refine frameN gBd8_ok 19 rfl fun Q hr=>?_
 conv=>whnf
 refine⟨ns,root,a,0,rfl,ta,kt,hc,?_⟩
 conv=>whnf
 refine loop_nil (ι:=P8) 3 1 (fun i=>pvs (rowF (fun i=>([]:List Int).getD i 0) i)) (fun c=>⟨[(1,.ptr 0 0 1 0 0),(6,.ptr 1 0 1 0 0),(7,intV c.i)],[tbx ns root,grL c.l,rowA c.l.length (fun i=>c.l.getD i 0)]⟩)
  (fun c=>c.i≤ns.length∧c.l.length≤c.i∧c.l=prcL ns c.i) (fun c=>ns.length - c.i) ⟨0,[]⟩ [tbx ns root,grL []]
  rfl ⟨.inl (AV.le_refl _),.inl (AV.le_refl _),.inl (AV.le_refl _),trivial⟩ ⟨.inl (ABlk.le_refl _),.inr ⟨_,_,_,rfl,rfl,.inl (AV.le_refl _),.inr ⟨rfl,rfl⟩,trivial⟩,trivial⟩ rfl ⟨Nat.zero_le _,Nat.le_refl _,rfl⟩ ?_
 rintro Y hle ⟨i,l⟩ ⟨hi,hll,hl⟩ ih
 simp only at hi hll hl
 conv=>whnf
 refine two_dec (fun h=>?_) (fun h=>?_)
 ·have h':(i:Int)<(ns.length:Int):=h
  have h:i<ns.length:=by omega
  have hw1:=wzz (i:=i) (by omega)
  conv=>whnf
  refine Chk.mk ⟨by omega,h',rfl⟩ ?_
  conv=>whnf
  refine two_eq (fun h3=>?_) (fun h3=>?_)
  ·have h3:(nd ns i).k=3:=h3
   have hl2:l++[(i:Int)]=prcL ns (i+1):=by simp only [prcL,if_pos h3,hl]
   conv=>whnf
   refine Chk.mk ⟨rfl,rfl,rfl,allLt_ok ⟨trivial,rfl⟩⟩ ?_
   conv=>whnf
   refine Chk.mk ⟨rfl,rfl,rfl,rfl,(by show (l.length+1)*8≤140737488355328;omega),(by show l.length+1≤9223372036854775807;omega)⟩ ?_
   conv=>whnf
   refine hle _ _ (Le.cutEnv 3 rfl rfl ⟨rfl,rfl,psR_cl rfl,trivial⟩ ?_ ?_) (ih ⟨i+1,l++[(i:Int)]⟩ (by show _ - (i+1)<_ - i;omega) ⟨h,by simp;omega,hl2⟩)
   ·skip
    repeat' (first|exact trivial|((conv=>whnf);first|exact trivial|refine⟨AV.le_refl _,?_⟩|refine⟨ABlk.le_refl _,?_⟩|(refine And.intro (AV.le_of_eq ?_) ?_;focus ((first|exact congrArg intV hw1);done))|(refine And.intro (ABlk.le_of_eq ?_) ?_;focus ((first|exact congrArg intV hw1);done))|fail)|fail)
   ·skip
    (conv=>whnf);refine⟨ABlk.le_refl _,?_⟩
    (conv=>whnf);refine⟨ABlk.le_of_eq (congrArg (fun n=>ABlk.box 50 [.p .nils,.slr 2 0 0 n]) (show l.length+1=(l++[(i:Int)]).length by simp)),?_⟩
    (conv=>whnf);refine⟨?_,?_⟩
    ·show ABlk.le _ (rowA (l++[(i:Int)]).length _)
     rw [show (l++[(i:Int)]).length=l.length+1 by simp]
     exact ps_snoc
    ·exact trivial
  ·have h3:(nd ns i).k≠3:=h3
   have hl2:l=prcL ns (i+1):=by simp only [prcL,if_neg h3,List.append_nil,hl]
   conv=>whnf
   refine hle _ _ (Le.cutEnv 3 rfl rfl ⟨rfl,rfl,fun _ _=>rfl,trivial⟩ ?_ ?_) (ih ⟨i+1,l⟩ (by show _ - (i+1)<_ - i;omega) ⟨h,by simp only;omega,hl2⟩)
   ·skip
    repeat' (first|exact trivial|((conv=>whnf);first|exact trivial|refine⟨AV.le_refl _,?_⟩|refine⟨ABlk.le_refl _,?_⟩|(refine And.intro (AV.le_of_eq ?_) ?_;focus ((first|exact congrArg intV hw1);done))|(refine And.intro (ABlk.le_of_eq ?_) ?_;focus ((first|exact congrArg intV hw1);done))|fail)|fail)
   ·skip
    repeat' (first|exact trivial|((conv=>whnf);first|exact trivial|refine⟨AV.le_refl _,?_⟩|refine⟨ABlk.le_refl _,?_⟩|(refine And.intro (AV.le_of_eq ?_) ?_;focus ((first|fail);done))|(refine And.intro (ABlk.le_of_eq ?_) ?_;focus ((first|fail);done))|fail)|fail)
 have B:Build8 ns root s:=hs▸build8 rt
 have hsn:s.n≤20000:=by
  have:=cnt_law rt
  rw [hs] at this
  have:=cntB_le (stP' ns) ns.length
  omega
 obtain rfl:i=ns.length:=by have h:¬ (i:Int)<(ns.length:Int):=h;omega
 obtain rfl:l=s.ps:=hl.trans B.ps.symm
 clear ih hle
 conv=>whnf
 refine⟨ns,root,rfl,kt,rt.snd,?_⟩
 conv=>whnf
 refine loop_nil (ι:=N8) 54 5 (fun i=>pvs (gnF (fun _=>default) i)) (fun c=>⟨[(1,.ptr 0 0 1 0 0),(6,.ptr 1 0 1 0 0),(8,.p (.sl 1 ns.length (rowF (parF ns root)))),(9,intV c.c)],rGK ns root c.n c.G s.ps.length (fun i=>s.ps.getD i 0)⟩)
  (fun c=>c.c≤s.ps.length∧crP ns root (s.ps.drop c.c) (c.c:Int) (c.n,c.G)=crP ns root s.ps 0 (0,fun _=>default)) (fun c=>s.ps.length - c.c) ⟨0,0,fun _=>default⟩ [tbx ns root,gB8 0 s.ps.length,rowA s.ps.length (fun i=>s.ps.getD i 0)]
  rfl ⟨.inl (AV.le_refl _),.inl (AV.le_refl _),.inl (AV.le_refl _),.inl (AV.le_refl _),trivial⟩ ⟨.inl (ABlk.le_refl _),.inr ⟨_,_,_,rfl,rfl,.inr ⟨rfl,rfl⟩,.inl (AV.le_refl _),trivial⟩,.inl (ABlk.le_refl _),trivial⟩ rfl ⟨Nat.zero_le _,rfl⟩ ?_
 rintro Y hle ⟨c,n,G⟩ ⟨hcl,hcr⟩ ih
 simp only at hcl hcr
 have hnn:n≤s.n:=by
  have:=crP_le ns root (s.ps.drop c) (c:Int) (n,G)
  rw [hcr,B.cr.1] at this
  exact this
 conv=>whnf
 refine two_dec (fun h=>?_) (fun h=>?_)
 ·have hc':(c:Int)<(s.ps.length:Int):=h
  have h:c<s.ps.length:=by omega
  have hw1:=wzz (i:=c) (by omega)
  obtain⟨x,q,b,hx,hq,P⟩:=B.pr c h
  have hqd:s.ps.getD c 0=(q:Int):=by rw [List.getD_eq_getElem?_getD,hq];rfl
  have hqv:s.ps.getD (0+((c:Int)).toNat) 0=(q:Int):=by rw [Nat.zero_add,Int.toNat_natCast];exact hqd
  have hdr:s.ps.drop c=(q:Int)::s.ps.drop (c+1):=by
   rw [List.drop_eq_getElem_cons h]
   rw [List.getElem?_eq_getElem h] at hq
   injection hq with hq
   rw [hq]
  rw [hdr] at hcr
  simp only [crP] at hcr
  obtain⟨fin,hfin⟩:∃ fin,crS ns root (q:Int) (c:Int) ns.length 0 (n+3,endsS n G (q:Int) (c:Int))=fin:=⟨_,rfl⟩
  rw [hfin] at hcr
  have hfl:fin.1≤s.n:=by
   have:=crP_le ns root (s.ps.drop (c+1)) ((c:Int)+1) fin
   rw [hcr,B.cr.1] at this
   exact this
  have hn3:n+3≤s.n:=by
   have:=crS_le ns root (q:Int) (c:Int) ns.length 0 (n+3,endsS n G (q:Int) (c:Int))
   rw [hfin] at this
   simp only at this
   omega
  conv=>whnf
  refine loop_up (ι:=Nat) [1,6,8,9] (fun j=>[(10,intV ((j+1:Nat):Int))]) (fun j=>[(1,gB8 (n+j) s.ps.length),(3,gnR (n+j) (endsJ n G (q:Int) (c:Int) j))]) (fun j=>j≤3) (fun j=>3 - j) 0 ⟨AV.le_refl _,trivial⟩ ⟨upLe1 rfl (ABlk.le_refl _),upLe1 rfl (ABlk.le_refl _),trivial⟩ (by decide) ?_
  rintro Z hlz j hj ihz
  have hj:j=0∨j=1∨j=2∨j=3:=by omega
  rcases hj with rfl|rfl|rfl|rfl
  ·skip
   conv=>whnf
   repeat' (first|(refine Chk.mk ⟨rfl,Nat.zero_add _,by omega,hc',rfl⟩ ?_;(conv=>whnf))|(refine Chk.mk ⟨rfl,rfl⟩ ?_;(conv=>whnf))|(refine Chk.mk ⟨rfl,rfl,rfl,allLt_ok ⟨trivial,rfl⟩⟩ ?_;(conv=>whnf))|(refine Chk.mk ⟨rfl,rfl,rfl,rfl,(by show (n+0+1)*56≤140737488355328;omega),(by show n+0+1≤9223372036854775807;omega)⟩ ?_;(conv=>whnf))|(refine And.intro ?_ ?_ <;> (conv=>whnf))|fail)
   refine hlz _ _ (Le.cutEnv 4 rfl rfl ⟨rfl,rfl,fun _ _=>rfl,nd_cl rfl,trivial⟩ ?_ ?_) (ihz 1 (by decide) (by decide))
   ·skip
    repeat' (first|exact trivial|((conv=>whnf);first|exact trivial|refine⟨AV.le_refl _,?_⟩|refine⟨ABlk.le_refl _,?_⟩|(refine And.intro (AV.le_of_eq ?_) ?_;focus ((first|fail);done))|(refine And.intro (ABlk.le_of_eq ?_) ?_;focus ((first|fail);done))|fail)|fail)
   ·skip
    iterate 3 ((conv=>whnf);refine⟨ABlk.le_refl _,?_⟩)
    (conv=>whnf);refine⟨gnR_snoc (x:=⟨1,q,c,[],-1⟩) (congrArg (fun v=>[intV 1,intV v,intV (c:Int),.p .nils,intV (-1)]) hqv),?_⟩
    (conv=>whnf);exact trivial
  ·skip
   conv=>whnf
   repeat' (first|(refine Chk.mk ⟨rfl,Nat.zero_add _,by omega,hc',rfl⟩ ?_;(conv=>whnf))|(refine Chk.mk ⟨rfl,rfl⟩ ?_;(conv=>whnf))|(refine Chk.mk ⟨rfl,rfl,rfl,allLt_ok ⟨trivial,rfl⟩⟩ ?_;(conv=>whnf))|(refine Chk.mk ⟨rfl,rfl,rfl,rfl,(by show (n+1+1)*56≤140737488355328;omega),(by show n+1+1≤9223372036854775807;omega)⟩ ?_;(conv=>whnf))|(refine And.intro ?_ ?_ <;> (conv=>whnf))|fail)
   refine hlz _ _ (Le.cutEnv 4 rfl rfl ⟨rfl,rfl,fun _ _=>rfl,nd_cl rfl,trivial⟩ ?_ ?_) (ihz 2 (by decide) (by decide))
   ·skip
    repeat' (first|exact trivial|((conv=>whnf);first|exact trivial|refine⟨AV.le_refl _,?_⟩|refine⟨ABlk.le_refl _,?_⟩|(refine And.intro (AV.le_of_eq ?_) ?_;focus ((first|fail);done))|(refine And.intro (ABlk.le_of_eq ?_) ?_;focus ((first|fail);done))|fail)|fail)
   ·skip
    iterate 3 ((conv=>whnf);refine⟨ABlk.le_refl _,?_⟩)
    (conv=>whnf);refine⟨gnR_snoc (x:=⟨2,q,c,[],-1⟩) (congrArg (fun v=>[intV 2,intV v,intV (c:Int),.p .nils,intV (-1)]) hqv),?_⟩
    (conv=>whnf);exact trivial
  ·skip
   conv=>whnf
   repeat' (first|(refine Chk.mk ⟨rfl,Nat.zero_add _,by omega,hc',rfl⟩ ?_;(conv=>whnf))|(refine Chk.mk ⟨rfl,rfl⟩ ?_;(conv=>whnf))|(refine Chk.mk ⟨rfl,rfl,rfl,allLt_ok ⟨trivial,rfl⟩⟩ ?_;(conv=>whnf))|(refine Chk.mk ⟨rfl,rfl,rfl,rfl,(by show (n+2+1)*56≤140737488355328;omega),(by show n+2+1≤9223372036854775807;omega)⟩ ?_;(conv=>whnf))|(refine And.intro ?_ ?_ <;> (conv=>whnf))|fail)
   refine hlz _ _ (Le.cutEnv 4 rfl rfl ⟨rfl,rfl,fun _ _=>rfl,nd_cl rfl,trivial⟩ ?_ ?_) (ihz 3 (by decide) (by decide))
   ·skip
    repeat' (first|exact trivial|((conv=>whnf);first|exact trivial|refine⟨AV.le_refl _,?_⟩|refine⟨ABlk.le_refl _,?_⟩|(refine And.intro (AV.le_of_eq ?_) ?_;focus ((first|fail);done))|(refine And.intro (ABlk.le_of_eq ?_) ?_;focus ((first|fail);done))|fail)|fail)
   ·skip
    iterate 3 ((conv=>whnf);refine⟨ABlk.le_refl _,?_⟩)
    (conv=>whnf);refine⟨gnR_snoc (x:=⟨3,q,c,[],-1⟩) (congrArg (fun v=>[intV 3,intV v,intV (c:Int),.p .nils,intV (-1)]) hqv),?_⟩
    (conv=>whnf);exact trivial
  clear ihz hlz
  conv=>whnf
  refine loop_up (ι:=N8) [1,6,8,9] (fun d=>[(11,intV d.c)]) (fun d=>[(1,gB8 d.n s.ps.length),(3,gnR d.n d.G)]) (fun d=>d.c≤ns.length∧crS ns root (q:Int) (c:Int) (ns.length - d.c) d.c (d.n,d.G)=fin) (fun d=>ns.length - d.c) ⟨0,n+3,endsS n G (q:Int) (c:Int)⟩ ⟨AV.le_refl _,trivial⟩ ⟨upLe1 rfl (ABlk.le_refl _),upLe1 rfl (ABlk.le_refl _),trivial⟩ ⟨Nat.zero_le _,hfin⟩ ?_
  rintro Z hlz ⟨k',n1,G1⟩ ⟨hkl,hcs⟩ ihz
  simp only at hkl hcs
  have hn1:n1≤s.n:=by
   have:=crS_le ns root (q:Int) (c:Int) (ns.length - k') k' (n1,G1)
   rw [hcs] at this
   simp only at this
   omega
  conv=>whnf
  refine two_dec (fun h2=>?_) (fun h2=>?_)
  ·have hk'':(k':Int)<(ns.length:Int):=h2
   have h2:k'<ns.length:=by omega
   have hw2:=wzz (i:=k') (by omega)
   rw [show ns.length - k'=(ns.length - (k'+1))+1 by omega] at hcs
   simp only [crS] at hcs
   obtain⟨o,ho⟩:∃ o,own ns root k'=o:=⟨_,rfl⟩
   have st:=rt.toStd
   conv=>whnf
   refine loop_up (ι:=Int) [1,6,8,9,11] (fun u=>[(12,intV u)]) (fun _=>[]) (fun u=>(u=-1∧o=-1)∨(0≤u∧u<(ns.length:Int)∧own ns root u.toNat=o)) (fun u=>if u<0 then 0 else ns.length - u.toNat) (k':Int) ⟨AV.le_refl _,trivial⟩ trivial (.inr ⟨by omega,by omega,by simpa using ho⟩) ?_
   rintro Z2 hlz2 u hu ihz2
   conv=>whnf
   refine two_dec (fun h4=>?_) (fun h4=>?_)
   ·have h4:0≤u:=h4
    obtain⟨_,hul,hue⟩:=hu.resolve_left (fun e=>by omega)
    obtain⟨y,rfl⟩:∃ y:Nat,u=(y:Int):=⟨u.toNat,by omega⟩
    rw [Int.toNat_natCast] at hue
    have hy:y<ns.length:=by omega
    have hoe:=own_eq st hy
    conv=>whnf
    refine Chk.mk ⟨h4,hul,rfl⟩ ?_
    conv=>whnf
    refine two_ne (fun h5=>?_) (fun h5=>?_)
    ·have h5:(nd ns y).k≠3:=h5
     rw [if_neg h5] at hoe
     have hnext:(parF ns root y=-1∧o=-1)∨(0≤parF ns root y∧parF ns root y<(ns.length:Int)∧own ns root (parF ns root y).toNat=o):=by
      by_cases e:(y:Int)=root
      ·rw [if_pos e] at hoe
       refine .inl ⟨?_,by rw [← hue,hoe]⟩
       have:=st.par_root
       rw [← e,Int.toNat_natCast] at this
       rw [← this,e]
      ·rw [if_neg e] at hoe
       obtain⟨p,p1,p2,_,p4⟩:=rt.up hy e
       rw [p4] at hoe ⊢
       exact .inr ⟨by omega,by omega,by rw [← hue,hoe]⟩
     have hdec:(if parF ns root y<0 then 0 else ns.length - (parF ns root y).toNat)<(if (y:Int)<0 then 0 else ns.length - (y:Int).toNat):=by
      rw [if_neg (by omega:¬ (y:Int)<0),Int.toNat_natCast]
      split
      ·omega
      ·by_cases e:(y:Int)=root
       ·have:=st.par_root
        rw [← e,Int.toNat_natCast] at this
        have hpr:parF ns root y=-1:=by rw [← this,e]
        omega
       ·obtain⟨p,p1,p2,_,p4⟩:=rt.up hy e
        rw [p4];omega
     conv=>whnf
     refine Chk.mk ⟨h4,hul,rfl⟩ ?_
     conv=>whnf
     refine hlz2 _ _ (Le.env ?_ ?_) (ihz2 (parF ns root y) hdec hnext)
     ·skip
      repeat' (first|exact trivial|((conv=>whnf);first|exact trivial|refine⟨AV.le_refl _,?_⟩|refine⟨ABlk.le_refl _,?_⟩|(refine And.intro (AV.le_of_eq ?_) ?_;focus ((first|fail);done))|(refine And.intro (ABlk.le_of_eq ?_) ?_;focus ((first|fail);done))|fail)|fail)
     ·skip
      repeat' (first|exact trivial|((conv=>whnf);first|exact trivial|refine⟨AV.le_refl _,?_⟩|refine⟨ABlk.le_refl _,?_⟩|(refine And.intro (AV.le_of_eq ?_) ?_;focus ((first|fail);done))|(refine And.intro (ABlk.le_of_eq ?_) ?_;focus ((first|fail);done))|fail)|fail)
    ·have h5:(nd ns y).k=3:=h5
     rw [if_pos h5] at hoe
     have huo:(y:Int)=o:=by rw [← hue,hoe]
     clear ihz2 hlz2
     conv=>whnf
     refine Chk.mk ⟨by omega,hk'',rfl⟩ ?_
     conv=>whnf
     refine two_dec (fun h7=>?_) (fun h7=>?_)
     ·have h7:(nd ns k').k≥7:=h7
      conv=>whnf
      refine two_dec (fun h17=>?_) (fun h17=>?_)
      ·have h17:(nd ns k').k≤17:=h17
       have hsb:=stB_iff.2 ⟨h7,h17⟩
       conv=>whnf
       refine Chk.mk ⟨rfl,Nat.zero_add _,by omega,hc',rfl⟩ ?_
       conv=>whnf
       refine Chk.mk ⟨rfl,rfl⟩ ?_
       conv=>whnf
       refine two_eq (fun h8=>?_) (fun h8=>?_)
       ·have h8:o=(q:Int):=by rw [← huo,← hqv];exact h8
        have hb:crB ns root (q:Int) k'=true:=by rw [crB,hsb,ho,h8];simp
        rw [hb,if_pos rfl] at hcs
        conv=>whnf
        repeat' (first|(refine Chk.mk ⟨rfl,Nat.zero_add _,by omega,hc',rfl⟩ ?_;(conv=>whnf))|(refine Chk.mk ⟨rfl,rfl⟩ ?_;(conv=>whnf))|(refine Chk.mk ⟨rfl,rfl,rfl,allLt_ok ⟨trivial,rfl⟩⟩ ?_;(conv=>whnf))|(refine Chk.mk ⟨rfl,rfl,rfl,rfl,(by show (n1+1)*56≤140737488355328;omega),(by show n1+1≤9223372036854775807;omega)⟩ ?_;(conv=>whnf))|(refine And.intro ?_ ?_ <;> (conv=>whnf))|fail)
        refine hlz _ _ (Le.cutEnv 4 rfl rfl ⟨rfl,rfl,fun _ _=>rfl,nd_cl rfl,trivial⟩ ?_ ?_) (ihz ⟨k'+1,n1+1,addG n1 G1 ⟨4,(k':Int),(c:Int),[],-1⟩⟩ (by show _ - (k'+1)<_ - k';omega) ⟨by show k'+1≤_;omega,hcs⟩)
        ·skip
         repeat' (first|exact trivial|((conv=>whnf);first|exact trivial|refine⟨AV.le_refl _,?_⟩|refine⟨ABlk.le_refl _,?_⟩|(refine And.intro (AV.le_of_eq ?_) ?_;focus ((first|exact congrArg intV hw2);done))|(refine And.intro (ABlk.le_of_eq ?_) ?_;focus ((first|exact congrArg intV hw2);done))|fail)|fail)
        ·skip
         iterate 3 ((conv=>whnf);refine⟨ABlk.le_refl _,?_⟩)
         (conv=>whnf);refine⟨gnR_snoc rfl,?_⟩
         (conv=>whnf);exact trivial
       ·have h8:o≠(q:Int):=by rw [← huo,← hqv];exact h8
        have hb:crB ns root (q:Int) k'=false:=by rw [crB,hsb,ho,beq_eq_false_iff_ne.2 h8];rfl
        rw [hb,if_neg (by decide)] at hcs
        conv=>whnf
        refine hlz _ _ (Le.cutEnv 4 rfl rfl ⟨rfl,rfl,fun _ _=>rfl,fun _ _=>rfl,trivial⟩ ?_ ?_) (ihz ⟨k'+1,n1,G1⟩ (by show _ - (k'+1)<_ - k';omega) ⟨by show k'+1≤_;omega,hcs⟩)
        ·skip
         repeat' (first|exact trivial|((conv=>whnf);first|exact trivial|refine⟨AV.le_refl _,?_⟩|refine⟨ABlk.le_refl _,?_⟩|(refine And.intro (AV.le_of_eq ?_) ?_;focus ((first|exact congrArg intV hw2);done))|(refine And.intro (ABlk.le_of_eq ?_) ?_;focus ((first|exact congrArg intV hw2);done))|fail)|fail)
        ·skip
         repeat' (first|exact trivial|((conv=>whnf);first|exact trivial|refine⟨AV.le_refl _,?_⟩|refine⟨ABlk.le_refl _,?_⟩|(refine And.intro (AV.le_of_eq ?_) ?_;focus ((first|fail);done))|(refine And.intro (ABlk.le_of_eq ?_) ?_;focus ((first|fail);done))|fail)|fail)
      ·have h17:¬ (nd ns k').k≤17:=h17
       have hb:crB ns root (q:Int) k'=false:=by
        rw [crB,show stB (nd ns k').k=false from by simp [stB,h17]];rfl
       rw [hb,if_neg (by decide)] at hcs
       conv=>whnf
       refine hlz _ _ (Le.cutEnv 4 rfl rfl ⟨rfl,rfl,fun _ _=>rfl,fun _ _=>rfl,trivial⟩ ?_ ?_) (ihz ⟨k'+1,n1,G1⟩ (by show _ - (k'+1)<_ - k';omega) ⟨by show k'+1≤_;omega,hcs⟩)
       ·skip
        repeat' (first|exact trivial|((conv=>whnf);first|exact trivial|refine⟨AV.le_refl _,?_⟩|refine⟨ABlk.le_refl _,?_⟩|(refine And.intro (AV.le_of_eq ?_) ?_;focus ((first|exact congrArg intV hw2);done))|(refine And.intro (ABlk.le_of_eq ?_) ?_;focus ((first|exact congrArg intV hw2);done))|fail)|fail)
       ·skip
        repeat' (first|exact trivial|((conv=>whnf);first|exact trivial|refine⟨AV.le_refl _,?_⟩|refine⟨ABlk.le_refl _,?_⟩|(refine And.intro (AV.le_of_eq ?_) ?_;focus ((first|fail);done))|(refine And.intro (ABlk.le_of_eq ?_) ?_;focus ((first|fail);done))|fail)|fail)
     ·have h7:¬ (nd ns k').k≥7:=h7
      have hb:crB ns root (q:Int) k'=false:=by
       rw [crB,show stB (nd ns k').k=false from by simp [stB];omega];rfl
      rw [hb,if_neg (by decide)] at hcs
      conv=>whnf
      refine hlz _ _ (Le.cutEnv 4 rfl rfl ⟨rfl,rfl,fun _ _=>rfl,fun _ _=>rfl,trivial⟩ ?_ ?_) (ihz ⟨k'+1,n1,G1⟩ (by show _ - (k'+1)<_ - k';omega) ⟨by show k'+1≤_;omega,hcs⟩)
      ·skip
       repeat' (first|exact trivial|((conv=>whnf);first|exact trivial|refine⟨AV.le_refl _,?_⟩|refine⟨ABlk.le_refl _,?_⟩|(refine And.intro (AV.le_of_eq ?_) ?_;focus ((first|exact congrArg intV hw2);done))|(refine And.intro (ABlk.le_of_eq ?_) ?_;focus ((first|exact congrArg intV hw2);done))|fail)|fail)
      ·skip
       repeat' (first|exact trivial|((conv=>whnf);first|exact trivial|refine⟨AV.le_refl _,?_⟩|refine⟨ABlk.le_refl _,?_⟩|(refine And.intro (AV.le_of_eq ?_) ?_;focus ((first|fail);done))|(refine And.intro (ABlk.le_of_eq ?_) ?_;focus ((first|fail);done))|fail)|fail)
   ·have h4:¬ 0≤u:=h4
    have huo:u=o:=by
     rcases hu with ⟨e1,e2⟩|⟨e,_⟩
     ·rw [e1,e2]
     ·omega
    clear ihz2 hlz2
    conv=>whnf
    refine Chk.mk ⟨by omega,hk'',rfl⟩ ?_
    conv=>whnf
    refine two_dec (fun h7=>?_) (fun h7=>?_)
    ·have h7:(nd ns k').k≥7:=h7
     conv=>whnf
     refine two_dec (fun h17=>?_) (fun h17=>?_)
     ·have h17:(nd ns k').k≤17:=h17
      have hsb:=stB_iff.2 ⟨h7,h17⟩
      conv=>whnf
      refine Chk.mk ⟨rfl,Nat.zero_add _,by omega,hc',rfl⟩ ?_
      conv=>whnf
      refine Chk.mk ⟨rfl,rfl⟩ ?_
      conv=>whnf
      refine two_eq (fun h8=>?_) (fun h8=>?_)
      ·have h8:o=(q:Int):=by rw [← huo,← hqv];exact h8
       have hb:crB ns root (q:Int) k'=true:=by rw [crB,hsb,ho,h8];simp
       rw [hb,if_pos rfl] at hcs
       conv=>whnf
       repeat' (first|(refine Chk.mk ⟨rfl,Nat.zero_add _,by omega,hc',rfl⟩ ?_;(conv=>whnf))|(refine Chk.mk ⟨rfl,rfl⟩ ?_;(conv=>whnf))|(refine Chk.mk ⟨rfl,rfl,rfl,allLt_ok ⟨trivial,rfl⟩⟩ ?_;(conv=>whnf))|(refine Chk.mk ⟨rfl,rfl,rfl,rfl,(by show (n1+1)*56≤140737488355328;omega),(by show n1+1≤9223372036854775807;omega)⟩ ?_;(conv=>whnf))|(refine And.intro ?_ ?_ <;> (conv=>whnf))|fail)
       refine hlz _ _ (Le.cutEnv 4 rfl rfl ⟨rfl,rfl,fun _ _=>rfl,nd_cl rfl,trivial⟩ ?_ ?_) (ihz ⟨k'+1,n1+1,addG n1 G1 ⟨4,(k':Int),(c:Int),[],-1⟩⟩ (by show _ - (k'+1)<_ - k';omega) ⟨by show k'+1≤_;omega,hcs⟩)
       ·skip
        repeat' (first|exact trivial|((conv=>whnf);first|exact trivial|refine⟨AV.le_refl _,?_⟩|refine⟨ABlk.le_refl _,?_⟩|(refine And.intro (AV.le_of_eq ?_) ?_;focus ((first|exact congrArg intV hw2);done))|(refine And.intro (ABlk.le_of_eq ?_) ?_;focus ((first|exact congrArg intV hw2);done))|fail)|fail)
       ·skip
        iterate 3 ((conv=>whnf);refine⟨ABlk.le_refl _,?_⟩)
        (conv=>whnf);refine⟨gnR_snoc rfl,?_⟩
        (conv=>whnf);exact trivial
      ·have h8:o≠(q:Int):=by rw [← huo,← hqv];exact h8
       have hb:crB ns root (q:Int) k'=false:=by rw [crB,hsb,ho,beq_eq_false_iff_ne.2 h8];rfl
       rw [hb,if_neg (by decide)] at hcs
       conv=>whnf
       refine hlz _ _ (Le.cutEnv 4 rfl rfl ⟨rfl,rfl,fun _ _=>rfl,fun _ _=>rfl,trivial⟩ ?_ ?_) (ihz ⟨k'+1,n1,G1⟩ (by show _ - (k'+1)<_ - k';omega) ⟨by show k'+1≤_;omega,hcs⟩)
       ·skip
        repeat' (first|exact trivial|((conv=>whnf);first|exact trivial|refine⟨AV.le_refl _,?_⟩|refine⟨ABlk.le_refl _,?_⟩|(refine And.intro (AV.le_of_eq ?_) ?_;focus ((first|exact congrArg intV hw2);done))|(refine And.intro (ABlk.le_of_eq ?_) ?_;focus ((first|exact congrArg intV hw2);done))|fail)|fail)
       ·skip
        repeat' (first|exact trivial|((conv=>whnf);first|exact trivial|refine⟨AV.le_refl _,?_⟩|refine⟨ABlk.le_refl _,?_⟩|(refine And.intro (AV.le_of_eq ?_) ?_;focus ((first|fail);done))|(refine And.intro (ABlk.le_of_eq ?_) ?_;focus ((first|fail);done))|fail)|fail)
     ·have h17:¬ (nd ns k').k≤17:=h17
      have hb:crB ns root (q:Int) k'=false:=by
       rw [crB,show stB (nd ns k').k=false from by simp [stB,h17]];rfl
      rw [hb,if_neg (by decide)] at hcs
      conv=>whnf
      refine hlz _ _ (Le.cutEnv 4 rfl rfl ⟨rfl,rfl,fun _ _=>rfl,fun _ _=>rfl,trivial⟩ ?_ ?_) (ihz ⟨k'+1,n1,G1⟩ (by show _ - (k'+1)<_ - k';omega) ⟨by show k'+1≤_;omega,hcs⟩)
      ·skip
       repeat' (first|exact trivial|((conv=>whnf);first|exact trivial|refine⟨AV.le_refl _,?_⟩|refine⟨ABlk.le_refl _,?_⟩|(refine And.intro (AV.le_of_eq ?_) ?_;focus ((first|exact congrArg intV hw2);done))|(refine And.intro (ABlk.le_of_eq ?_) ?_;focus ((first|exact congrArg intV hw2);done))|fail)|fail)
      ·skip
       repeat' (first|exact trivial|((conv=>whnf);first|exact trivial|refine⟨AV.le_refl _,?_⟩|refine⟨ABlk.le_refl _,?_⟩|(refine And.intro (AV.le_of_eq ?_) ?_;focus ((first|fail);done))|(refine And.intro (ABlk.le_of_eq ?_) ?_;focus ((first|fail);done))|fail)|fail)
    ·have h7:¬ (nd ns k').k≥7:=h7
     have hb:crB ns root (q:Int) k'=false:=by
      rw [crB,show stB (nd ns k').k=false from by simp [stB];omega];rfl
     rw [hb,if_neg (by decide)] at hcs
     conv=>whnf
     refine hlz _ _ (Le.cutEnv 4 rfl rfl ⟨rfl,rfl,fun _ _=>rfl,fun _ _=>rfl,trivial⟩ ?_ ?_) (ihz ⟨k'+1,n1,G1⟩ (by show _ - (k'+1)<_ - k';omega) ⟨by show k'+1≤_;omega,hcs⟩)
     ·skip
      repeat' (first|exact trivial|((conv=>whnf);first|exact trivial|refine⟨AV.le_refl _,?_⟩|refine⟨ABlk.le_refl _,?_⟩|(refine And.intro (AV.le_of_eq ?_) ?_;focus ((first|exact congrArg intV hw2);done))|(refine And.intro (ABlk.le_of_eq ?_) ?_;focus ((first|exact congrArg intV hw2);done))|fail)|fail)
     ·skip
      repeat' (first|exact trivial|((conv=>whnf);first|exact trivial|refine⟨AV.le_refl _,?_⟩|refine⟨ABlk.le_refl _,?_⟩|(refine And.intro (AV.le_of_eq ?_) ?_;focus ((first|fail);done))|(refine And.intro (ABlk.le_of_eq ?_) ?_;focus ((first|fail);done))|fail)|fail)
  ·have h2:¬ (k':Int)<(ns.length:Int):=h2
   obtain rfl:k'=ns.length:=by omega
   rw [Nat.sub_self] at hcs
   simp only [crS] at hcs
   rw [← hcs] at hcr
   conv=>whnf
   refine hle _ _ (Le.env ?_ ?_) (ih ⟨c+1,n1,G1⟩ (by show _ - (c+1)<_ - c;omega) ⟨h,by show crP ns root (s.ps.drop (c+1)) ((c+1:Nat):Int) (n1,G1)=_;rw [← hcr];rfl⟩)
   ·skip
    repeat' (first|exact trivial|((conv=>whnf);first|exact trivial|refine⟨AV.le_refl _,?_⟩|refine⟨ABlk.le_refl _,?_⟩|(refine And.intro (AV.le_of_eq ?_) ?_;focus ((first|exact congrArg intV hw1);done))|(refine And.intro (ABlk.le_of_eq ?_) ?_;focus ((first|exact congrArg intV hw1);done))|fail)|fail)
   ·skip
    repeat' (first|exact trivial|((conv=>whnf);first|exact trivial|refine⟨AV.le_refl _,?_⟩|refine⟨ABlk.le_refl _,?_⟩|(refine And.intro (AV.le_of_eq ?_) ?_;focus ((first|fail);done))|(refine And.intro (ABlk.le_of_eq ?_) ?_;focus ((first|fail);done))|fail)|fail)
 obtain rfl:c=s.ps.length:=by have h:¬ (c:Int)<(s.ps.length:Int):=h;omega
 rw [List.drop_length] at hcr
 simp only [crP] at hcr
 obtain⟨b1,b2⟩:=B.cr
 rw [← hcr] at b1 b2
 simp only at b1 b2
 subst b1
 clear ih hle hcr hnn hcl
 obtain⟨F,hF⟩:∃ F,s.f=F:=⟨_,rfl⟩
 have lc:LayC ns root s.n s.f (atO s.of):=⟨rt,by omega,fun j h1 h2=>(B.ofs j h1 h2).1,fun j h1 h2=>(B.ofs j h1 h2).2⟩
 have sk:SameK s.n s.f G:=fun x hx=>by rw [b2 x hx];exact⟨rfl,rfl,rfl⟩
 conv=>whnf
 refine loop_up (ι:=Nat) [1,6] (fun c=>[(13,intV c)]) (fun c=>[(3,gnR s.n (mixF (doneS ns root s c) s.f G))]) (fun c=>c≤s.ps.length) (fun c=>s.ps.length - c) 0 ⟨AV.le_refl _,trivial⟩ ⟨upLe1 rfl (ABlk.le_of_eq (congrArg (gnR s.n) (mixF_none fun y hy=>by obtain⟨_,_,_,_,h,_⟩:=hy;omega).symm)),trivial⟩ (Nat.zero_le _) ?_
 rintro Y hle c hcl ih
 conv=>whnf
 refine two_dec (fun h=>?_) (fun h=>?_)
 ·have hc':(c:Int)<(s.ps.length:Int):=h
  have h:c<s.ps.length:=by omega
  have hw1:=wzz (i:=c) (by omega)
  obtain⟨x,q,b,hx,hq,P⟩:=B.pr c h
  have hqd:s.ps.getD c 0=(q:Int):=by rw [List.getD_eq_getElem?_getD,hq];rfl
  have hqv:s.ps.getD (0+((c:Int)).toNat) 0=(q:Int):=by rw [Nat.zero_add,Int.toNat_natCast];exact hqd
  have hql:=P.ql
  have hbq:=P.bq
  have hkne:=P.kne
  have hkm:=rt.many q hql
  have hb0:0≤s.ps.getD (0+((c:Int)).toNat) 0:=by rw [hqv];omega
  have hb1:s.ps.getD (0+((c:Int)).toNat) 0<(ns.length:Int):=by rw [hqv];omega
  have hkq:(ns.getD (s.ps.getD (0+((c:Int)).toNat) 0).toNat default).kids=(nd ns q).kids:=by rw [hqv];rfl
  have hwl:IntKind.i64.wrap (((ns.getD (s.ps.getD (0+((c:Int)).toNat) 0).toNat default).kids.length:Int) - 1)=(((nd ns q).kids.length - 1:Nat):Int):=by
   rw [hkq,w64 ⟨by omega,by omega⟩];omega
  have hc0:0≤IntKind.i64.wrap (((ns.getD (s.ps.getD (0+((c:Int)).toNat) 0).toNat default).kids.length:Int) - 1):=by rw [hwl];omega
  have hc1:IntKind.i64.wrap (((ns.getD (s.ps.getD (0+((c:Int)).toNat) 0).toNat default).kids.length:Int) - 1)<((ns.getD (s.ps.getD (0+((c:Int)).toNat) 0).toNat default).kids.length:Int):=by rw [hwl,hkq];omega
  have hbv:(ns.getD (s.ps.getD (0+((c:Int)).toNat) 0).toNat default).kids.getD (IntKind.i64.wrap (((ns.getD (s.ps.getD (0+((c:Int)).toNat) 0).toNat default).kids.length:Int) - 1)).toNat 0=((b:Nat):Int):=by
   rw [hwl,hkq,Int.toNat_natCast];exact P.body
  obtain⟨g1,g2,g3⟩:=B.ends c x q b h hx P
  have sk1:=sk.mix (doneS ns root s c)
  have sk2:=sk1.mix (stS ns (atO s.of) b)
  have hex:ExOk ns s.n s.f (atO s.of) ((x:Int)+1) b:=fun j hj=>by rw [B.prof c x q b h hq P j hj];exact g2
  obtain⟨v,hv⟩:∃ v,rowG ns (atO s.of) 4000 (nd ns b).kids ((x:Int)+1)=v:=⟨_,rfl⟩
  have hf0:=P.f0
  rw [hv] at hf0
  have hset:setG (mixF (stS ns (atO s.of) b) s.f (mixF (doneS ns root s c) s.f G)) x [v] (mixF (stS ns (atO s.of) b) s.f (mixF (doneS ns root s c) s.f G) x).ra=mixF (doneS ns root s (c+1)) s.f G:=by
   rw [set_mix (F:=s.f) (by omega:x<s.n) sk2 (by rw [hf0]) (by
    by_cases e1:stS ns (atO s.of) b x
    ·rw [mixF_yes e1]
    ·rw [mixF_no e1]
     by_cases e2:doneS ns root s c x
     ·rw [mixF_yes e2]
     ·rw [mixF_no e2,b2 x (by omega),hf0];rfl),mixF_mix (U:=fun y=>doneS ns root s c y∨stS ns (atO s.of) b y) (fun y=>Iff.rfl),mixF_mix (U:=doneS ns root s (c+1)) (fun y=>doneS_succ B h hx hq P y)]
  conv=>whnf
  refine Chk.mk ⟨rfl,Nat.zero_add _,by omega,hc',rfl⟩ ?_
  conv=>whnf
  refine Chk.mk ⟨rfl,rfl⟩ ?_
  conv=>whnf
  refine Chk.mk ⟨hb0,hb1,rfl⟩ ?_
  conv=>whnf
  refine Chk.mk ⟨hc0,hc1,rfl⟩ ?_
  conv=>whnf
  refine⟨ns,root,s.n,_,s.ps.length,_,2,_,(x:Int)+1,_,rfl,rfl,lc.nl,by rw [sk1.kind];exact g2,?_⟩
  conv=>whnf
  refine⟨ns,root,s.n,_,s.ps.length,_,3,_,(x:Int)+2,_,rfl,rfl,lc.nl,by rw [sk1.kind];exact g3,?_⟩
  conv=>whnf
  repeat ((refine And.intro ?_ ?_);(focus ((conv=>whnf);first|done|exact⟨⟨hc0,hc1,rfl⟩,by conv=>whnf⟩|exact⟨⟨hb0,hb1,rfl⟩,by conv=>whnf⟩));(conv=>whnf))
  refine⟨ns,root,s.n,s.f,_,s.ps.length,_,atO s.of,(x:Int)+1,_,b,(x:Int)+1,(x:Int)+2,_,rfl,rfl,hbv,lc,by omega,by omega,P.b6,sk1,hex,P.row,?_⟩
  conv=>whnf
  repeat ((refine And.intro ?_ ?_);(focus ((conv=>whnf);first|done|exact⟨⟨hc0,hc1,rfl⟩,by conv=>whnf⟩|exact⟨⟨hb0,hb1,rfl⟩,by conv=>whnf⟩));(conv=>whnf))
  refine⟨ns,root,s.n,_,s.ps.length,_,1,_,(x:Int),_,rfl,rfl,lc.nl,by rw [sk2.kind];exact g1,?_⟩
  conv=>whnf
  repeat ((refine And.intro ?_ ?_);(focus ((conv=>whnf);first|done|exact⟨⟨hc0,hc1,rfl⟩,by conv=>whnf⟩|exact⟨⟨hb0,hb1,rfl⟩,by conv=>whnf⟩));(conv=>whnf))
  refine⟨ns,root,s.n,_,s.ps.length,_,atO s.of,_,b,(x:Int)+1,v,_,rfl,rfl,hbv,rt,by omega,by omega,P.b6,lc.nl,lc.of sk2,hv,?_⟩
  conv=>whnf
  have hx0:(0:Int)≤(x:Int):=by omega
  have hxn:(x:Int)<(s.n:Int):=by omega
  have hea:0+((x:Int)).toNat=x:=by simp
  repeat' (first|(refine Chk.mk ⟨rfl,rfl⟩ ?_;(conv=>whnf))|(refine Chk.mk ⟨rfl,Nat.zero_add _,hx0,hxn,rfl⟩ ?_;(conv=>whnf))|(refine And.intro ?_ ?_ <;> (conv=>whnf))|fail)
  refine hle _ _ (Le.trans (Le.fz4 (r:=0) (b3':=gnR s.n (setG (mixF (stS ns (atO s.of) b) s.f (mixF (doneS ns root s c) s.f G)) x [v] (mixF (stS ns (atO s.of) b) s.f (mixF (doneS ns root s c) s.f G) x).ra)) (kidF [v]) rfl (row1 rfl) (.inr ⟨_,_,_,_,_,_,rfl,rfl,gn_fz rfl rfl fun i=>gn_upd1 hea rfl i⟩)) (Le.cutEnv 4 rfl rfl rGK_cl ?_ ?_)) (ih (c+1) (by omega) h)
  ·skip
   repeat' (first|exact trivial|((conv=>whnf);first|exact trivial|refine⟨AV.le_refl _,?_⟩|refine⟨ABlk.le_refl _,?_⟩|(refine And.intro (AV.le_of_eq ?_) ?_;focus ((first|exact congrArg intV hw1);done))|(refine And.intro (ABlk.le_of_eq ?_) ?_;focus ((first|exact congrArg intV hw1);done))|fail)|fail)
  ·skip
   repeat' (first|exact trivial|((conv=>whnf);first|exact trivial|refine⟨AV.le_refl _,?_⟩|refine⟨ABlk.le_refl _,?_⟩|(refine And.intro (AV.le_of_eq ?_) ?_;focus ((first|exact congrArg (gnR s.n) hset);done))|(refine And.intro (ABlk.le_of_eq ?_) ?_;focus ((first|exact congrArg (gnR s.n) hset);done))|fail)|fail)
 ·obtain rfl:c=s.ps.length:=by have h:¬ (c:Int)<(s.ps.length:Int):=h;omega
  conv=>whnf
  exact hr _ _ _ _ (fin8 (done_all B b2) rfl) ⟨trivial,trivial,trivial⟩ hk
end Go.Proofs.YtojjkleplnijaaaGreatDoor
namespace Go.Ru
theorem nx_short {ns:List Nd} {root:Int} {s:BSt} {e:Nat→Nat} (h:BInv ns root s e) {x:Nat} (hx:x<s.n):(s.f x).nx.length<3:=by
 rcases h.back x hx with ⟨c,hc,hx⟩|⟨i,h1,h2,h3⟩
 ·obtain⟨q,a1,a2,a3,a4,⟨b,a5,a6⟩,a7,a8⟩:=h.pr c hc
  rcases hx with rfl|rfl|rfl
  ·rw [a5];exact (by decide:1<3)
  ·rw [a7];exact (by decide:0<3)
  ·rw [a8];exact (by decide:0<3)
 ·obtain⟨x',c,b1,b2,b3,b4,b5⟩:=h.st i h1 h2
  rw [h3] at b1
  injection b1 with b1
  subst b1
  exact b5.lt3
end Go.Ru
namespace Go.Proofs.YtojjkleplnijaaaGreatDoor
open Go.AE Go.Ru
set_option maxRecDepth 100000
set_option maxHeartbeats 1000000
def eSameI:AC:=fun args K k=>∃ l,args=[intsV l,intsV l]∧List.length l<1000000∧k (.ret (.p (.bool true))) K
theorem sameI_ok:COk 30 eSameI:=by
 rintro args K k ⟨l,rfl,hl,hk⟩
 refine frame0P g0_ok 19 rfl fun Q hr=>?_
 conv=>whnf
 refine two_ne (fun h=>absurd rfl h) (fun _=>?_)
 conv=>whnf
 refine loop_up (ι:=Nat) [0,1] (fun i=>[(5,intV i)]) (fun _=>[]) (fun i=>i≤l.length) (fun i=>l.length - i) 0 ⟨AV.le_refl _,trivial⟩ trivial (Nat.zero_le _) ?_
 rintro Y hle i hi ih
 conv=>whnf
 refine two_dec (fun h=>?_) (fun h=>?_)
 ·have h':(i:Int)<(l.length:Int):=h
  have h:i<l.length:=by omega
  have hw1:=wzz (i:=i) (by omega)
  conv=>whnf
  refine⟨⟨by omega,h',rfl⟩,?_⟩
  conv=>whnf
  refine⟨⟨by omega,h',rfl⟩,?_⟩
  conv=>whnf
  refine two_ne (fun h=>absurd rfl h) (fun _=>?_)
  conv=>whnf
  refine hle _ _ (Le.env ?_ ?_) (ih (i+1) (by omega) (by omega))
  ·skip
   repeat' (first|exact trivial|((conv=>whnf);first|exact trivial|refine⟨AV.le_refl _,?_⟩|refine⟨ABlk.le_refl _,?_⟩|(refine And.intro (AV.le_of_eq ?_) ?_;focus ((first|exact congrArg intV hw1);done))|(refine And.intro (ABlk.le_of_eq ?_) ?_;focus ((first|exact congrArg intV hw1);done))|fail)|fail)
  ·skip
   repeat' (first|exact trivial|((conv=>whnf);first|exact trivial|refine⟨AV.le_refl _,?_⟩|refine⟨ABlk.le_refl _,?_⟩|(refine And.intro (AV.le_of_eq ?_) ?_;focus ((first|fail);done))|(refine And.intro (ABlk.le_of_eq ?_) ?_;focus ((first|fail);done))|fail)|fail)
 ·conv=>whnf
  exact hr _ _ rfl hk
def gFb:AG:=gput 26 cShown7 (gput 27 (eSmall 300) (gput 28 eBuildW (gput 29 eRBuild (gput 30 eSameI g0))))
theorem gFb_ok:GOk Tryz.prog gFb:=gput_ok shown8_ok (gput_ok eSmall8_ok (gput_ok eBuildW_ok (gput_ok rbuild_ok (gput_ok sameI_ok g0_ok))))
theorem builds_calls (ns:List Nd) (root:Int) (K:List ABlk) (k:AO→List ABlk→Prop) (hk:k (.ret (.p (.bool true))) K):ACalls Tryz.prog 5 [treeV ns root] K k:=by
 cases hs:smallS 300 ns with
 | false =>
  refine frame0P gFb_ok 19 rfl fun Q hr=>?_
  conv=>whnf
  refine⟨rfl,?_⟩
  conv=>whnf
  refine⟨ns,root,_,rfl,hs,?_⟩
  conv=>whnf
  exact hr _ _ rfl hk
 | true =>
 have ta:=small_tame (m:=300) (by decide) hs
 have kt:=small_kt (m:=300) (by decide) hs
 obtain⟨a,e,hc⟩:∃ a e,checkTree ns root=(a,e):=⟨_,_,rfl⟩
 obtain⟨s,hb⟩:∃ s,buildS ns root=s:=⟨_,rfl⟩
 by_cases he:e=0
 case neg =>
  refine frame0P gFb_ok 19 rfl fun Q hr=>?_
  conv=>whnf
  refine⟨rfl,?_⟩
  conv=>whnf
  refine⟨ns,root,_,rfl,hs,?_⟩
  conv=>whnf
  refine⟨ns,root,a,e,s,rfl,ta,hc,hb,fun _=>?_,fun h=>absurd h he⟩
  conv=>whnf
  refine⟨ns,root,a,e,s,rfl,ta,kt,hc,hb,fun _=>?_,fun h=>absurd h he⟩
  conv=>whnf
  exact hr _ _ rfl hk
 subst he
 have rt:=right_of (check_right hc)
 have hlen:=rt.len
 have hcnt:=cnt_law rt
 rw [hb] at hcnt
 have hcb:=cntB_le (stP' ns) ns.length
 obtain⟨e,hi,_⟩:=build_ok rt
 rw [hb] at hi
 refine frame0P gFb_ok 19 rfl fun Q hr=>?_
 conv=>whnf
 refine⟨rfl,?_⟩
 conv=>whnf
 refine⟨ns,root,_,rfl,hs,?_⟩
 conv=>whnf
 refine⟨ns,root,a,0,s,rfl,ta,hc,hb,fun h=>absurd rfl h,fun _=>?_⟩
 conv=>whnf
 refine⟨ns,root,a,0,s,rfl,ta,kt,hc,hb,fun h=>absurd rfl h,fun _=>?_⟩
 conv=>whnf
 refine two_ne (fun h=>absurd rfl h) (fun _=>?_)
 conv=>whnf
 repeat ((refine And.intro ?_ ?_);(focus ((conv=>whnf);first|done|exact⟨⟨by omega,by omega,rfl⟩,by conv=>whnf⟩));(conv=>whnf))
 refine⟨s.ps,rfl,by omega,?_⟩
 conv=>whnf
 repeat ((refine And.intro ?_ ?_);(focus ((conv=>whnf);first|done|exact⟨⟨by omega,by omega,rfl⟩,by conv=>whnf⟩));(conv=>whnf))
 refine loop_up (ι:=Nat) [5,7] (fun i=>[(9,intV i)]) (fun _=>[]) (fun i=>i≤s.n) (fun i=>s.n - i) 0 ⟨AV.le_refl _,trivial⟩ trivial (Nat.zero_le _) ?_
 rintro Y hle i hil ih
 conv=>whnf
 refine two_dec (fun h=>?_) (fun h=>?_)
 ·have h':(i:Int)<(s.n:Int):=h
  have h:i<s.n:=by omega
  have hw1:=wzz (i:=i) (by omega)
  have hnx:=nx_short hi h
  conv=>whnf
  refine⟨⟨by omega,h',rfl⟩,?_⟩
  conv=>whnf
  refine⟨⟨by omega,h',rfl⟩,?_⟩
  conv=>whnf
  refine two_ne (fun h=>absurd rfl h) (fun _=>?_)
  conv=>whnf
  refine two_ne (fun h=>absurd rfl h) (fun _=>?_)
  conv=>whnf
  refine two_ne (fun h=>absurd rfl h) (fun _=>?_)
  conv=>whnf
  refine two_ne (fun h=>absurd rfl h) (fun _=>?_)
  conv=>whnf
  refine⟨(s.f i).nx,rfl,by omega,?_⟩
  conv=>whnf
  refine hle _ _ (Le.cutEnv 4 rfl rfl ⟨rfl,rfl,rfl,rfl,trivial⟩ ?_ ?_) (ih (i+1) (by omega) h)
  ·skip
   repeat' (first|exact trivial|((conv=>whnf);first|exact trivial|refine⟨AV.le_refl _,?_⟩|refine⟨ABlk.le_refl _,?_⟩|(refine And.intro (AV.le_of_eq ?_) ?_;focus ((first|exact congrArg intV hw1);done))|(refine And.intro (ABlk.le_of_eq ?_) ?_;focus ((first|exact congrArg intV hw1);done))|fail)|fail)
  ·skip
   repeat' (first|exact trivial|((conv=>whnf);first|exact trivial|refine⟨AV.le_refl _,?_⟩|refine⟨ABlk.le_refl _,?_⟩|(refine And.intro (AV.le_of_eq ?_) ?_;focus ((first|fail);done))|(refine And.intro (ABlk.le_of_eq ?_) ?_;focus ((first|fail);done))|fail)|fail)
 ·conv=>whnf
  exact hr _ _ rfl hk
end Go.Proofs.YtojjkleplnijaaaGreatDoor
