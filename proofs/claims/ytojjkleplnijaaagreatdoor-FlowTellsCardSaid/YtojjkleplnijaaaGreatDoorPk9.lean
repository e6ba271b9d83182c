/-
  On the way to flowTells_card: part 9 of 11.
-/
import Derived.Lib.SlicesCompact
import Derived.Shelf.Small.Bits
import Derived.Shelf.Small.Strs
import Derived.Shelf.Strconv.Atoi
import Derived.Shelf.Strconv.Itoa0
import Derived.Shelf.Strconv.Itoa1
import Derived.Shelf.LaysM
import Derived.Shelf.Strconv.Itoa2
import Derived.Shelf.Strconv.Itoa3
import Derived.Shelf.Strconv.AtoiErrFast
import Derived.Shelf.Strconv.ParseIntEmpty
import Derived.Shelf.Strconv.AtoiFail
import Derived.Shelf.Strconv.Clone
import Derived.Shelf.Strconv.SyntaxError
import Derived.Shelf.LaysC
import Derived.Shelf.Strconv.ToError
import Derived.Shelf.Strconv.Lower
import Derived.Shelf.Strconv.ParseUint10
import Derived.Shelf.Strconv.ParseUint10Empty
import Derived.Shelf.Strconv.ParseUint10Any
import Derived.Shelf.Strconv.ParseInt10
import Derived.Shelf.Strconv.AtoiLong
import Derived.Shelf.Strconv.AtoiInnerAll
import Derived.Shelf.Strconv.RangeError
import Derived.Shelf.Strconv.ToErrorRange
import Derived.Shelf.Strconv.AtoiAll
import Derived.Shelf.Strings.Search1
import Derived.Shelf.Strings.Search2
import Derived.Shelf.Strings.Search3
import Derived.Shelf.Strings.Shaped
import Derived.Shelf.Sort.Plain
import Derived.Ground.Names2Prog
import Derived.Shelf.Slices.Clone
import Derived.Shelf.Slices.CompactI
import Derived.Shelf.Slices.CompactS
import Derived.Shelf.Slices.SearchI
import Derived.Shelf.Slices.Cells
import Derived.Shelf.Slices.In.SortNone
import Derived.Ground.SlgnProg
import Derived.Shelf.SlicesE.Clone
import Derived.Test.YtojjkleplnijaaaGreatDoorProg
import Derived.Test.YtojjkleplnijaaaGreatDoorPk1
import Derived.Test.YtojjkleplnijaaaGreatDoorPk4
import Derived.Test.YtojjkleplnijaaaGreatDoorPk8
set_option linter.unusedVariables false
set_option linter.unusedSimpArgs false
namespace Go.Proofs.YtojjkleplnijaaaGreatDoor
open Go.AE Go.Ru
set_option maxRecDepth 100000
set_option maxHeartbeats 1000000
def gRck:AG:=gput 49 cRRight (gput 50 cRwrong (gput 51 cRof (gput 52 cRparams g0)))
theorem gRck_ok:GOk Tryz.prog gRck:=gput_ok rright_ok (gput_ok rwrong_ok (gput_ok rof_ok (gput_ok rparams_ok g0_ok)))
def eRCheck:AC:=fun args K k=>∃ ns root a e,args=[treeV ns root]∧Tame ns∧Kt ns∧checkTree ns root=(a,e)∧k (.ret (.tup [intV a,intV e])) K
theorem rcheck_ok:COk 10 eRCheck:=by
 rintro args K k ⟨ns,root,a,e,rfl,ta,kt,hc,hk⟩
 refine frame0P gRck_ok 19 rfl fun Q hr=>?_
 unfold checkTree at hc
 cases h:rightS ns root with
 | false =>
  rw [h] at hc
  conv=>whnf
  refine⟨ns,root,_,rfl,kt,ta,h,?_⟩
  obtain⟨rfl,rfl⟩:0=a∧1=e:=Prod.mk.inj hc
  conv=>whnf
  exact hr _ _ rfl hk
 | true =>
  rw [h] at hc
  simp only at hc
  have rt:=right_of h
  have hlen:=rt.len
  have hrl:=rt.rlt
  have hrt:=rt.rt
  conv=>whnf
  refine⟨ns,root,_,rfl,kt,ta,h,?_⟩
  conv=>whnf
  refine loop_up (ι:=Nat) [1] (fun i=>[(5,intV i)]) (fun _=>[]) (fun i=>i≤ns.length∧(∀ j,j<i→checkS ns root j=0)∧wrongS ns root i (ns.length - i)=wrongS ns root 0 ns.length) (fun i=>ns.length - i) 0 ⟨AV.le_refl _,trivial⟩ trivial ⟨Nat.zero_le _,fun j hj=>absurd hj (Nat.not_lt_zero _),rfl⟩ ?_
  rintro Y hle i ⟨hi,hb,he⟩ ih
  conv=>whnf
  refine two_dec (fun h2=>?_) (fun h2=>?_)
  ·have h2:i<ns.length:=by have h2:(i:Int)<(ns.length:Int):=h2;omega
   have hw1:=wzz (i:=i) (by omega)
   obtain⟨m,hm⟩:∃ m,ns.length - i=m+1:=⟨ns.length - i - 1,by omega⟩
   have hm':ns.length - (i+1)=m:=by omega
   rw [hm] at he
   simp only [wrongS] at he
   have hwe:=wrong_eq rt h2 hb
   obtain⟨v,hv⟩:∃ v,checkS ns root i=v:=⟨_,rfl⟩
   rw [hv] at he hwe
   conv=>whnf
   refine⟨ns,root,_,i,v,rfl,rfl,rt,h2,hwe,?_⟩
   conv=>whnf
   refine two_ne (fun h3=>?_) (fun h3=>?_)
   ·have h3:v≠0:=h3
    rw [beq_eq_false_iff_ne.2 h3] at he
    simp only at he
    rw [← he] at hc
    obtain⟨rfl,rfl⟩:(i:Int)=a∧v=e:=Prod.mk.inj hc
    conv=>whnf
    exact hr _ _ rfl hk
   ·have h3:v=0:=h3
    rw [h3] at he
    have hb2:∀ j,j<i+1→checkS ns root j=0:=fun j hj=>by
     rcases Nat.lt_succ_iff_lt_or_eq.1 hj with e|rfl
     ·exact hb j e
     ·exact hv.trans h3
    conv=>whnf
    refine hle _ _ (Le.env ?_ ?_) (ih (i+1) (by omega) ⟨by omega,hb2,by rw [hm'];exact he⟩)
    ·skip
     repeat' (first|exact trivial|((conv=>whnf);first|exact trivial|refine⟨AV.le_refl _,?_⟩|refine⟨ABlk.le_refl _,?_⟩|(refine⟨AV.le_of_eq ?_,?_⟩;focus ((first|exact congrArg intV hw1|fail);done))|(refine⟨ABlk.le_of_eq ?_,?_⟩;focus ((first|exact congrArg intV hw1|fail);done))|fail)|fail)
    ·skip
     repeat' (first|exact trivial|((conv=>whnf);first|exact trivial|refine⟨AV.le_refl _,?_⟩|refine⟨ABlk.le_refl _,?_⟩|fail)|fail)
  ·obtain rfl:i=ns.length:=by have h2:¬ (i:Int)<(ns.length:Int):=h2;omega
   rw [Nat.sub_self] at he
   simp only [wrongS] at he
   rw [← he] at hc
   simp only at hc
   have hp:=procI_range ns mainT
   have hop:=of_proc rt mainT
   generalize procI ns mainT=p at hc hp hop
   conv=>whnf
   refine⟨ns,root,_,root.toNat,3,3,_,p,rfl,by omega,rt,hrl,hop,?_⟩
   conv=>whnf
   refine two_dec (fun h3=>?_) (fun h3=>?_)
   ·have h3:p=-1:=by have h3:p<0:=h3;omega
    subst h3
    obtain⟨rfl,rfl⟩:root=a∧11=e:=Prod.mk.inj hc
    conv=>whnf
    exact hr _ _ rfl hk
   have h3:¬ p<0:=h3
   obtain⟨q,rfl⟩:∃ q:Nat,p=(q:Int):=⟨p.toNat,by omega⟩
   have hq:q<ns.length:=by omega
   rw [beq_eq_false_iff_ne.2 (show (q:Int)≠-1 by omega),Bool.false_or] at hc
   conv=>whnf
   refine⟨⟨by omega,by omega,rfl⟩,?_⟩
   conv=>whnf
   refine two_ne (fun h4=>?_) (fun h4=>?_)
   ·have h4:(nd ns q).n≠0:=h4
    rw [show ((nd ns ((q:Int)).toNat).n != 0)=true from bne_iff_ne.2 h4] at hc
    obtain⟨rfl,rfl⟩:root=a∧11=e:=Prod.mk.inj hc
    conv=>whnf
    exact hr _ _ rfl hk
   have h4:(nd ns q).n=0:=h4
   rw [show ((nd ns ((q:Int)).toNat).n != 0)=false from by simpa using h4,Bool.false_or] at hc
   obtain⟨ps,hps⟩:∃ ps,paramsS ns q=ps:=⟨_,rfl⟩
   have hc:(match decide (0<ps.length) with|true=>(root,(11:Int))|false=>(0,0))=(a,e):=by rw [← hps];exact hc
   conv=>whnf
   refine⟨ns,root,_,q,ps,rfl,rfl,rt,hq,hps,?_⟩
   conv=>whnf
   refine two_dec (fun h5=>?_) (fun h5=>?_)
   ·have h5:0<ps.length:=by have h5:(ps.length:Int)>0:=h5;omega
    rw [decide_eq_true h5] at hc
    obtain⟨rfl,rfl⟩:root=a∧11=e:=Prod.mk.inj hc
    conv=>whnf
    exact hr _ _ rfl hk
   ·have h5:¬ 0<ps.length:=by have h5:¬ (ps.length:Int)>0:=h5;omega
    rw [decide_eq_false h5] at hc
    obtain⟨rfl,rfl⟩:0=a∧0=e:=Prod.mk.inj hc
    conv=>whnf
    exact hr _ _ rfl hk
def graphV (s:BSt):AV:=.agg [.p (.sl 5 s.n (gnF s.f)),.p (.sl 1 s.ps.length (kidF s.ps))]
def graphW (s:BSt):AV:=.agg [.p (.sl 5 s.n (gnW s.f)),.p (.sl 1 s.ps.length (kidF s.ps))]
def gnV (g:GN):AV:=.agg [intV g.k,intV g.pl,intV g.pr,intsV g.nx,intV g.ra]
def grW (s:BSt):ABlk:=.box 42 [.p (.sl 5 s.n (gnW s.f)),.p (.sl 1 s.ps.length (kidF s.ps))]
def endK (s:BSt) (kind proc:Int):List ABlk:=[grW s,.box 3 [intV kind],.box 3 [intV proc]]
def cEnd1:AC:=fun args K k=>∃ s x kind proc X,args=[gnV (s.f (x:Nat)),.ptr 1 0 1 0 0,.ptr 2 0 1 0 0]∧K=endK s kind proc++X∧k (.ret (.p (.bool (kindP s.f kind proc x)))) (endK s kind proc++X)
theorem end1_ok:COk 124 cEnd1:=by
 rintro args K k ⟨s,x,kind,proc,X,rfl,rfl,hk⟩
 refine frameG (K0:=endK s kind proc) (X:=X) g0_ok 19 rfl ⟨rfl,rfl,rfl,trivial⟩ fun Q hr=>?_
 conv=>whnf
 refine two_eq (fun h=>?_) (fun h=>?_)
 ·have h:(s.f x).k=kind:=h
  conv=>whnf
  exact hr _ _ _ _ rfl rfl ⟨rfl,rfl,rfl,trivial⟩ (AV.le_refl _) (lesK.refl _) (by simp only [kindP,beq_iff_eq.2 h,Bool.true_and] at hk;exact hk)
 ·have h:(s.f x).k≠kind:=h
  conv=>whnf
  exact hr _ _ _ _ rfl rfl ⟨rfl,rfl,rfl,trivial⟩ (AV.le_refl _) (lesK.refl _) (by simp only [kindP,beq_eq_false_iff_ne.2 h,Bool.false_and] at hk;exact hk)
def ofK (s:BSt) (place:Int):List ABlk:=[grW s,.box 3 [intV place]]
def cOf1:AC:=fun args K k=>∃ s x place X,args=[gnV (s.f (x:Nat)),.ptr 1 0 1 0 0]∧K=ofK s place++X∧k (.ret (.p (.bool (placeP s.f place x)))) (ofK s place++X)
theorem of1_ok:COk 77 cOf1:=by
 rintro args K k ⟨s,x,place,X,rfl,rfl,hk⟩
 refine frameG (K0:=ofK s place) (X:=X) g0_ok 19 rfl ⟨rfl,rfl,trivial⟩ fun Q hr=>?_
 conv=>whnf
 refine two_eq (fun h=>?_) (fun h=>?_)
 ·have h:(s.f x).k=4:=h
  conv=>whnf
  exact hr _ _ _ _ rfl rfl ⟨rfl,rfl,trivial⟩ (AV.le_refl _) (lesK.refl _) (by simp only [placeP,beq_iff_eq.2 h,Bool.true_and] at hk;exact hk)
 ·have h:(s.f x).k≠4:=h
  conv=>whnf
  exact hr _ _ _ _ rfl rfl ⟨rfl,rfl,trivial⟩ (AV.le_refl _) (lesK.refl _) (by simp only [placeP,beq_eq_false_iff_ne.2 h,Bool.false_and] at hk;exact hk)
def cIdxE:AC:=fun args K k=>∃ s kind proc X,args=[.p (.sl 5 s.n (gnW s.f)),.fn 124 [] [.ptr 1 0 1 0 0,.ptr 2 0 1 0 0]]∧K=endK s kind proc++X∧s.n<1000000∧k (.ret (intV (endT s kind proc))) (endK s kind proc++X)
theorem idxE_ok:COk 76 cIdxE:=by
 rintro args K k ⟨s,kind,proc,X,rfl,rfl,hn,hk⟩
 refine frameG (K0:=endK s kind proc) (X:=X) (gput_ok end1_ok g0_ok) 19 rfl ⟨rfl,rfl,rfl,trivial⟩ fun Q hr=>?_
 conv=>whnf
 refine loop_up (ι:=Nat) [0,1,7] (fun i=>[(8,intV i)]) (fun _=>[]) (fun i=>i≤s.n∧∀ j,j<i→(kindP s.f kind proc) j=false) (fun i=>s.n - i) 0 ⟨AV.le_refl _,trivial⟩ trivial ⟨Nat.zero_le _,fun j hj=>by omega⟩ ?_
 rintro Y hle i ⟨hi,he⟩ ih
 conv=>whnf
 refine two_dec (fun h=>?_) (fun h=>?_)
 ·have h:i<s.n:=by have h:(i:Int)<(s.n:Int):=h;omega
  have hw1:=wzz (i:=i) (by omega)
  conv=>whnf
  refine⟨⟨by omega,by omega,rfl⟩,?_⟩
  conv=>whnf
  refine⟨s,i,kind,proc,[],rfl,rfl,?_⟩
  conv=>whnf
  refine two_intro (fun h2=>?_) (fun h2=>?_)
  ·have h2:(kindP s.f kind proc) i=true:=h2
   conv=>whnf
   exact hr _ _ _ _ rfl rfl ⟨rfl,rfl,rfl,trivial⟩ (AV.le_refl _) (lesK.refl _) ((endS_at h h2 he)▸hk)
  ·have h2:(kindP s.f kind proc) i=false:=h2
   conv=>whnf
   refine hle _ _ (Le.env ?_ ?_) (ih (i+1) (by omega) ⟨by omega,fun j hj=>by
    by_cases e:j=i
    ·rw [e];exact h2
    ·exact he j (by omega)⟩)
   ·skip
    repeat' (first|exact trivial|((conv=>whnf);first|exact trivial|refine⟨AV.le_refl _,?_⟩|refine⟨ABlk.le_refl _,?_⟩|(refine⟨AV.le_of_eq ?_,?_⟩;focus ((first|exact congrArg intV hw1|fail);done))|(refine⟨ABlk.le_of_eq ?_,?_⟩;focus ((first|exact congrArg intV hw1|fail);done))|fail)|fail)
   ·skip
    repeat' (first|exact trivial|((conv=>whnf);first|exact trivial|refine⟨AV.le_refl _,?_⟩|refine⟨ABlk.le_refl _,?_⟩|fail)|fail)
 ·obtain rfl:i=s.n:=by have h:¬ (i:Int)<(s.n:Int):=h;omega
  conv=>whnf
  exact hr _ _ _ _ rfl rfl ⟨rfl,rfl,rfl,trivial⟩ (AV.le_refl _) (lesK.refl _) ((endS_no he)▸hk)
def cIdxO:AC:=fun args K k=>∃ s place X,args=[.p (.sl 5 s.n (gnW s.f)),.fn 77 [] [.ptr 1 0 1 0 0]]∧K=ofK s place++X∧s.n<1000000∧k (.ret (intV (ofT s place))) (ofK s place++X)
theorem idxO_ok:COk 76 cIdxO:=by
 rintro args K k ⟨s,place,X,rfl,rfl,hn,hk⟩
 refine frameG (K0:=ofK s place) (X:=X) (gput_ok of1_ok g0_ok) 19 rfl ⟨rfl,rfl,trivial⟩ fun Q hr=>?_
 conv=>whnf
 refine loop_up (ι:=Nat) [0,1,7] (fun i=>[(8,intV i)]) (fun _=>[]) (fun i=>i≤s.n∧∀ j,j<i→(placeP s.f place) j=false) (fun i=>s.n - i) 0 ⟨AV.le_refl _,trivial⟩ trivial ⟨Nat.zero_le _,fun j hj=>by omega⟩ ?_
 rintro Y hle i ⟨hi,he⟩ ih
 conv=>whnf
 refine two_dec (fun h=>?_) (fun h=>?_)
 ·have h:i<s.n:=by have h:(i:Int)<(s.n:Int):=h;omega
  have hw1:=wzz (i:=i) (by omega)
  conv=>whnf
  refine⟨⟨by omega,by omega,rfl⟩,?_⟩
  conv=>whnf
  refine⟨s,i,place,[],rfl,rfl,?_⟩
  conv=>whnf
  refine two_intro (fun h2=>?_) (fun h2=>?_)
  ·have h2:(placeP s.f place) i=true:=h2
   conv=>whnf
   exact hr _ _ _ _ rfl rfl ⟨rfl,rfl,trivial⟩ (AV.le_refl _) (lesK.refl _) ((endS_at h h2 he)▸hk)
  ·have h2:(placeP s.f place) i=false:=h2
   conv=>whnf
   refine hle _ _ (Le.env ?_ ?_) (ih (i+1) (by omega) ⟨by omega,fun j hj=>by
    by_cases e:j=i
    ·rw [e];exact h2
    ·exact he j (by omega)⟩)
   ·skip
    repeat' (first|exact trivial|((conv=>whnf);first|exact trivial|refine⟨AV.le_refl _,?_⟩|refine⟨ABlk.le_refl _,?_⟩|(refine⟨AV.le_of_eq ?_,?_⟩;focus ((first|exact congrArg intV hw1|fail);done))|(refine⟨ABlk.le_of_eq ?_,?_⟩;focus ((first|exact congrArg intV hw1|fail);done))|fail)|fail)
   ·skip
    repeat' (first|exact trivial|((conv=>whnf);first|exact trivial|refine⟨AV.le_refl _,?_⟩|refine⟨ABlk.le_refl _,?_⟩|fail)|fail)
 ·obtain rfl:i=s.n:=by have h:¬ (i:Int)<(s.n:Int):=h;omega
  conv=>whnf
  exact hr _ _ _ _ rfl rfl ⟨rfl,rfl,trivial⟩ (AV.le_refl _) (lesK.refl _) ((endS_no he)▸hk)
def gEnd:AG:=gput 76 cIdxE g0
theorem gEnd_ok:GOk Tryz.prog gEnd:=gput_ok idxE_ok g0_ok
def gOf:AG:=gput 76 cIdxO g0
theorem gOf_ok:GOk Tryz.prog gOf:=gput_ok idxO_ok g0_ok
def cEndM:AC:=fun args K k=>∃ s kind proc,args=[graphW s,intV kind,intV proc]∧s.n<1000000∧k (.ret (intV (endT s kind proc))) K
theorem endM_ok:COk 75 cEndM:=by
 rintro args K k ⟨s,kind,proc,rfl,hn,hk⟩
 refine frame0P gEnd_ok 19 rfl fun Q hr=>?_
 conv=>whnf
 refine⟨s,kind,proc,_,rfl,rfl,hn,?_⟩
 conv=>whnf
 exact hr _ _ rfl hk
def gEnd2:AG:=gput 75 cEndM g0
theorem gEnd2_ok:GOk Tryz.prog gEnd2:=gput_ok endM_ok g0_ok
def eEnds (kind:Int):AC:=fun args K k=>∃ s proc v,args=[graphW s,intV proc]∧s.n<1000000∧endT s kind proc=v∧k (.ret (intV v)) K
theorem entry_ok:COk 33 (eEnds 1):=by
 rintro args K k ⟨s,proc,v,rfl,hn,rfl,hk⟩
 refine frame0P gEnd2_ok 19 rfl fun Q hr=>?_
 conv=>whnf
 refine⟨s,1,proc,rfl,hn,?_⟩
 conv=>whnf
 exact hr _ _ rfl hk
theorem exit_ok:COk 35 (eEnds 2):=by
 rintro args K k ⟨s,proc,v,rfl,hn,rfl,hk⟩
 refine frame0P gEnd2_ok 19 rfl fun Q hr=>?_
 conv=>whnf
 refine⟨s,2,proc,rfl,hn,?_⟩
 conv=>whnf
 exact hr _ _ rfl hk
theorem fail_ok8:COk 36 (eEnds 3):=by
 rintro args K k ⟨s,proc,v,rfl,hn,rfl,hk⟩
 refine frame0P gEnd2_ok 19 rfl fun Q hr=>?_
 conv=>whnf
 refine⟨s,3,proc,rfl,hn,?_⟩
 conv=>whnf
 exact hr _ _ rfl hk
def eOf:AC:=fun args K k=>∃ s place v,args=[graphW s,intV place]∧s.n<1000000∧ofT s place=v∧k (.ret (intV v)) K
theorem of_ok:COk 37 eOf:=by
 rintro args K k ⟨s,place,v,rfl,hn,rfl,hk⟩
 refine frame0P gOf_ok 19 rfl fun Q hr=>?_
 conv=>whnf
 refine⟨s,place,_,rfl,rfl,hn,?_⟩
 conv=>whnf
 exact hr _ _ rfl hk
end Go.Proofs.YtojjkleplnijaaaGreatDoor
namespace Go.AE
theorem Le.fzx {kb:Nat} {t:List (Nat×AV)} {K K':List ABlk} {r ty sz n:Nat} {f:Nat→List AV} (g:Nat→List PV) (hr:nth K r=some (.arr ty sz 0 n f)) (hg:∀ i,i<n→f i=pvs (g i))
  (hK:fsxK r sz n g (setN K r .dead) K'):Le kb ⟨t,K⟩ ⟨t,K'⟩:=fun we me hk w m tmps hT hS hE=>by
 obtain⟨m',h1,h2,h3⟩:=fzx_core hS hr hg hK
 exact⟨m',hT.trans h1,h2,fun d=>h3 _ _ _ (.inl (AV.le_refl _)) (hE d),.tr h1 h2⟩
theorem pvs_map (l:List PV):pvs l=l.map AV.p:=by
 induction l with
 | nil=>rfl
 | cons a l ih=>simp only [pvs,ih,List.map_cons]
theorem Fz.row {K:List ABlk} {r ty sz n:Nat} {g:Nat→List PV} (hr:nth K r=some (.arr ty sz 0 n (fun i=>pvs (g i)))):Fz K (.slr r 0 0 n) (.sl sz n g):=by
 refine .sl r ty sz 0 n 0 n _ g hr (Nat.zero_add _) (fun i hi=>?_) (fun i hi j hj hj'=>?_)
 ·simp only [pvs_map,List.length_map,Nat.zero_add]
 ·simp only [pvs_map,List.getElem_map,Nat.zero_add]
  exact .p _
theorem Le.fz7 {kb:Nat} {t:List (Nat×AV)} {b0 b1 b2 b3 b4 b5 b5' b6:ABlk} {Y:List ABlk} {r ty sz n:Nat} {f:Nat→List AV} (g:Nat→List PV) (hr:nth Y r=some (.arr ty sz 0 n f)) (hg:∀ i,i<n→f i=pvs (g i))
  (h5:fsxB (r+7) sz n g b5 b5'):Le kb ⟨t,b0::b1::b2::b3::b4::b5::b6::Y⟩ ⟨t,b0::b1::b2::b3::b4::b5'::b6::setN Y r .dead⟩ :=
 Le.fzx (r:=r+7) g hr hg ⟨.inl (.inl (ABlk.le_refl _)),.inl (.inl (ABlk.le_refl _)),.inl (.inl (ABlk.le_refl _)),.inl (.inl (ABlk.le_refl _)),.inl (.inl (ABlk.le_refl _)),h5,.inl (.inl (ABlk.le_refl _)),fsxK.refl _ _ _ _ _⟩
end Go.AE
namespace Go.Proofs.YtojjkleplnijaaaGreatDoor
open Go.AE Go.Ru
set_option maxRecDepth 100000
set_option maxHeartbeats 2000000
def eFbl:AC:=fun args K k=>∃ (ns:List Nd) (root:Int) (n:Nat) (G:Nat→GN) (of:Int→Option Nat) (ex:Int) (np:Nat) (pf:Nat→Int) (p:Nat) (fo h:Int) (X:List ABlk) (ex' p' fo' h':Int) (b:Int) (G':Nat→GN),
 args=[lpV,intV p',intV fo',intV h']∧K=stK ns root n G of ex' np pf++X∧p'=(p:Int)∧fo'=fo∧h'=h∧ex'=ex∧RightT ns root∧p<ns.length∧(nd ns p).k=6∧OfOk ns of n p∧flBlock ns of ex 4000 p fo h G=(b,G') ∧
 k (.ret (intV b)) (stK ns root n G' of ex np pf++X)
theorem eFbl_ok:COk 65 eFbl:=by
 rintro args K k ⟨ns,root,n,G,of,ex,np,pf,p,fo,h,X,_,_,_,_,b,G',h1,h2,rfl,rfl,rfl,rfl,rt,h3,h4,h5,h6,h7⟩
 have:=rt.len
 exact fbl_ok (fst_ok 4000) args K k ⟨ns,root,n,G,of,_,np,pf,p,_,_,X,h1,h2,rt,h3,by omega,h4,h5,by rw [h6];exact h7⟩
def endsJ (n:Nat) (f:Nat→GN) (p num:Int):Nat→Nat→GN
 | 0=>f
 | 1=>addG n f ⟨1,p,num,[],-1⟩
 | 2=>addG (n+1) (addG n f ⟨1,p,num,[],-1⟩) ⟨2,p,num,[],-1⟩
 | _=>endsS n f p num
theorem gn_snoc {n:Nat} {G:Nat→GN} {x:GN} {f:Nat→List AV} (hf:f 0=pvs (gnF (fun _=>x) 0)) :
  (ABlk.arr 53 5 0 (n+1) (catF n (fun i=>pvs (gnF G i)) f)).le (gnA (n+1) (addG n G x)):=by
 refine ABlk.arr_eq rfl fun i hi=>?_
 by_cases h:i<n
 ·rw [catF_lt h]
  simp [gnF,addG,show i≠n by omega]
 ·obtain rfl:i=n:=by omega
  rw [catF_ge (Nat.le_refl _),Nat.sub_self,hf]
  simp [gnF,addG]
theorem ps_snoc {l:List Int} {x:Int}:(ABlk.arr 3 1 0 (l.length+1) (catF l.length (fun i=>pvs (rowF (fun i=>l.getD i 0) i)) fun i=>takeN (dropN [intV x] (i*1)) 1)).le (rowA (l.length+1) (fun i=>(l++[x]).getD i 0)):=by
 refine ABlk.arr_eq rfl fun i hi=>?_
 by_cases h:i<l.length
 ·rw [catF_lt h]
  simp [rowF,List.getD_eq_getElem?_getD,List.getElem?_append_left h]
 ·obtain rfl:i=l.length:=by omega
  rw [catF_ge (Nat.le_refl _),Nat.sub_self]
  simp [rowF,pvs,intV,takeN,dropN]
theorem nd_cl {n m:Nat} {G:Nat→GN} {f:Nat→List AV} {ty sz:Nat} (hf:AV.cls m (f 0)=true):(ABlk.arr ty sz 0 (n+1) (catF n (fun i=>pvs (gnF G i)) f)).cl m:=fun i hi=>by
 by_cases h:i<n
 ·rw [catF_lt h];rfl
 ·obtain rfl:i=n:=by omega
  rw [catF_ge (Nat.le_refl _),Nat.sub_self];exact hf
theorem row3_cl {m:Nat} {a b c:Int}:∀ i,i<3→AV.cls m (takeN (dropN [AV.p (.int .i64 a),AV.p (.int .i64 b),AV.p (.int .i64 c)] (i*1)) 1)=true:=fun i hi=>by
 rcases (by omega:i=0∨i=1∨i=2) with rfl|rfl|rfl<;>rfl
theorem row1_cl {m:Nat} {a:Int}:∀ i,i<1→AV.cls m (takeN (dropN [AV.p (.int .i64 a)] (i*1)) 1)=true:=fun i hi=>by
 obtain rfl:i=0:=by omega
 rfl
theorem ofG_ins {of:Int→Option Nat} {i:Int} {n:Nat} {p:Nat} (h:i=(p:Int)):insM (ofG of) (.i .i64 i) (intV (n:Int))=ofG (insO of p n):=by
 subst h
 funext κ
 cases κ with
 | s l=>simp [insM,ofG]
 | i q o =>
  unfold insM ofG insO
  by_cases hq:q=.i64
  ·subst hq
   by_cases ho:o=(p:Int)
   ·subst ho;simp
   ·have:(MK.i .i64 o)≠MK.i .i64 (p:Int):=fun h=>ho (by injection h)
    simp only [this,ho,if_false]
  ·have:(MK.i q o)≠MK.i .i64 (p:Int):=fun h=>hq (by injection h)
   simp only [this,hq,if_false]
theorem gn_upd1 {G:Nat→GN} {j a1:Nat} {c1:List AV} {v:AV} (h1:a1=j) (hc1:c1=[v]) (i:Nat) :
  updF (fun i=>pvs (gnF G i)) a1 (putCells ((fun i=>pvs (gnF G i)) a1) (0+3) c1) i =
   if i=j then [intV (G j).k,intV (G j).pl,intV (G j).pr,v,intV (G j).ra] else pvs (gnF G i):=by
 subst h1 hc1
 simp only [updF_eq]
 split<;>rfl
theorem ofG0:ABlk.mp (.int .i64) (fun _=>none) []=.mp (.int .i64) (ofG fun _=>none) []:=by
 congr 1
 funext κ
 cases κ<;>simp [ofG]
theorem fzv_graph {K:List ABlk} {s:BSt} (h1:nth K 5=some (gnA s.n s.f)) (h2:nth K 6=some (rowA s.ps.length (fun i=>s.ps.getD i 0))) :
  FzV K (.tup [.agg [.slr 5 0 0 s.n,.slr 6 0 0 s.ps.length],intV 0]) (.tup [graphV s,intV 0]):=by
 refine .tup _ _ rfl fun j hj hj'=>?_
 rcases j with _|_|j
 ·refine .agg _ _ rfl fun j hj hj'=>?_
  rcases j with _|_|j
  ·exact .p _ _ (Fz.row h1)
  ·exact .p _ _ (Fz.row (g:=kidF s.ps) h2)
  ·simp at hj;omega
 ·exact .p _ _ (.p _)
 ·simp at hj;omega
def gBuild:AG:=gput 9 eCheck (gput 65 eFbl g0)
theorem gBuild_ok:GOk Tryz.prog gBuild:=gput_ok eCheck_ok (gput_ok eFbl_ok g0_ok)
def graph0:AV:=.agg [.p .nils,.p .nils]
def eBuild:AC:=fun args K k=>∃ ns root a e s,args=[treeV ns root]∧Tame ns∧checkTree ns root=(a,e)∧buildS ns root=s∧(e≠0→k (.ret (.tup [graph0,intV 1])) K)∧(e=0→k (.ret (.tup [graphV s,intV 0])) K)
structure BC where
 s:BSt
 j:Nat
 ex:Int
structure B1 where
 i:Nat
 s:SS
theorem build_okW:COk 28 eBuild:=by
 rintro args K k ⟨ns,root,a,e,s,rfl,ta,hc,hs,hk1,hk0⟩
 by_cases he:e=0
 case neg =>
  refine frame0P gBuild_ok 19 rfl fun Q hr=>?_
  conv=>whnf
  refine⟨ns,root,a,e,rfl,ta,hc,?_⟩
  conv=>whnf
  refine two_ne (fun _=>?_) (fun h=>absurd h he)
  conv=>whnf
  exact hr _ _ rfl (hk1 he)
 subst he
 have hk:=hk0 rfl
 clear hk0 hk1
 have rt:=right_of (check_right hc)
 have hlen:=rt.len
 have hrt:=rt.rt
 have hpos:=rt.pos
 refine frame0W gBuild_ok 19 rfl fun Q hr=>?_
 have hksl:(nd ns root.toNat).kids.length<ns.length:=by have:=rt.many root.toNat (by omega);omega
 conv=>whnf
 refine⟨ns,root,a,0,rfl,ta,hc,?_⟩
 conv=>whnf
 refine⟨⟨by omega,by omega,rfl⟩,?_⟩
 conv=>whnf
 refine LoopW.le (Le.nilRow (t':=[(1,.ptr 0 0 1 0 0),(2,.ptr 1 0 1 0 0),(3,intV 0),(6,.ptr 2 0 1 0 0),(7,lpV),(35,intsV (nd ns root.toNat).kids),(36,intV (nd ns root.toNat).kids.length),(8,intV 0),(37,intV 0)])
  (K':=[tbox ns root,.box 42 [.p .nils,.p .nils],.box 42 [.slr 5 0 0 0,.p .nils],.mp (.int .i64) (ofG fun _=>none) [],layB ns root 0]) 53 5 (fun i=>pvs (gnF bst0.f i)) rfl
  ⟨.inl (AV.le_refl _),.inl (AV.le_refl _),.inl (AV.le_refl _),.inl (AV.le_refl _),.inl (AV.le_refl _),.inl (AV.le_refl _),.inl (AV.le_refl _),.inl (AV.le_refl _),.inl (AV.le_refl _),trivial⟩
  ⟨.inl (ABlk.le_refl _),.inl (ABlk.le_refl _),.inr ⟨_,_,_,rfl,rfl,.inr ⟨rfl,rfl⟩,.inl (AV.le_refl _),trivial⟩,.inl (ABlk.le_of_eq ofG0),.inl (ABlk.le_refl _),trivial⟩) ?_
 refine loop_nil (ι:=BC) 3 1 (fun i=>pvs (rowF (fun i=>bst0.ps.getD i 0) i)) (fun c=>⟨[(1,.ptr 0 0 1 0 0),(2,.ptr 1 0 1 0 0),(3,intV 0),(6,.ptr 2 0 1 0 0),(7,lpV),(35,intsV (nd ns root.toNat).kids),(36,intV (nd ns root.toNat).kids.length),(8,intV c.s.fst),(37,intV c.j)],
   stK ns root c.s.n c.s.f c.s.of c.ex c.s.ps.length (fun i=>c.s.ps.getD i 0)⟩)
  (fun c=>c.j≤(nd ns root.toNat).kids.length∧BPre ns root ((nd ns root.toNat).kids.take c.j) ((nd ns root.toNat).kids.drop c.j) c.s∧buildR ns ((nd ns root.toNat).kids.drop c.j) c.s=s∧c.s.ps.length≤c.j) (fun c=>(nd ns root.toNat).kids.length - c.j) ⟨bst0,0,0⟩
  [tbox ns root,.box 42 [.p .nils,.p .nils],grB 0 0,.mp (.int .i64) (ofG fun _=>none) [],layB ns root 0,gnA 0 bst0.f]
  rfl ⟨.inl (AV.le_refl _),.inl (AV.le_refl _),.inl (AV.le_refl _),.inl (AV.le_refl _),.inl (AV.le_refl _),.inl (AV.le_refl _),.inl (AV.le_refl _),.inl (AV.le_refl _),.inl (AV.le_refl _),trivial⟩
  ⟨.inl (ABlk.le_refl _),.inl (ABlk.le_refl _),.inr ⟨_,_,_,rfl,rfl,.inl (AV.le_refl _),.inr ⟨rfl,rfl⟩,trivial⟩,.inl (ABlk.le_refl _),.inl (ABlk.le_refl _),.inl (ABlk.le_refl _),trivial⟩
  rfl ⟨Nat.zero_le _,bpre0 rt,hs,Nat.le_refl _⟩ ?_
 rintro Y hle ⟨s0,j,ex⟩ ⟨hj,hpre,hbd,hpsl⟩ ih
 simp only at hj hpre hbd hpsl
 conv=>whnf
 refine two_dec (fun h=>?_) (fun h=>?_)
 ·have h:j<(nd ns root.toNat).kids.length:=by have h:(j:Int)<((nd ns root.toNat).kids.length:Int):=h;omega
  have hw1:=wzz (i:=j) (by omega)
  rw [List.drop_eq_getElem_cons h] at hbd hpre
  have e1:(nd ns root.toNat).kids.getD j 0=(nd ns root.toNat).kids[j]:=by simp [h]
  rw [← e1] at hbd hpre
  obtain⟨q,hq⟩:∃ q,(nd ns root.toNat).kids.getD j 0=q:=⟨_,rfl⟩
  rw [hq] at hbd hpre
  rw [buildR_cons] at hbd
  obtain⟨sh,hq0,_⟩:=step_h rt hpre.hd hpre.ahead hpre.left
  obtain⟨q,rfl⟩:∃ x:Nat,q=(x:Int):=⟨q.toNat,by omega⟩
  have hnext:=hpre.step rt
  rw [Int.toNat_natCast] at sh hbd hnext
  have htk:(nd ns root.toNat).kids.take j++[(q:Int)]=(nd ns root.toNat).kids.take (j+1):=by
   rw [List.take_add_one,← hq,List.getD_eq_getElem?_getD,List.getElem?_eq_getElem h];rfl
  rw [htk] at hnext
  have hql:q<ns.length:=by have:=sh.lt;omega
  have hlo:=sh.lo
  obtain⟨e,hinv⟩:=hpre.inv
  have hnum:=hinv.num
  have hcl:=cntB_le (stP' ns) s0.fst
  have hqv:((nd ns root.toNat).kids.getD ((j:Int)).toNat 0)=(q:Int):=hq
  have hb0:0≤(nd ns root.toNat).kids.getD ((j:Int)).toNat 0:=by rw [hqv];omega
  have hb1:(nd ns root.toNat).kids.getD ((j:Int)).toNat 0<(ns.length:Int):=by rw [hqv];omega
  have hwq:IntKind.i64.wrap ((nd ns root.toNat).kids.getD ((j:Int)).toNat 0+1)=((q+1:Nat):Int):=by rw [hqv,w64 ⟨by omega,by omega⟩];omega
  conv=>whnf
  refine Chk.mk ⟨by omega,by omega,rfl⟩ ?_
  conv=>whnf
  refine Chk.mk ⟨hb0,hb1,rfl⟩ ?_
  conv=>whnf
  refine two_eq (fun h3=>?_) (fun h3=>?_)
  ·have h3:(nd ns q).k=3:=by
    have h3:(nd ns ((nd ns root.toNat).kids.getD ((j:Int)).toNat 0).toNat).k=3:=h3
    rw [hqv] at h3;exact h3
   conv=>whnf
   refine Chk.mk ⟨rfl,rfl,rfl,allLt_ok ⟨trivial,rfl⟩⟩ ?_
   conv=>whnf
   refine Chk.mk ⟨rfl,rfl,rfl,rfl,(by show (s0.ps.length+1)*8≤140737488355328;omega),(by show s0.ps.length+1≤9223372036854775807;omega)⟩ ?_
   conv=>whnf
   have hps:(ABlk.arr 3 1 0 (s0.ps.length+1) (catF s0.ps.length (fun i=>pvs (rowF (fun i=>s0.ps.getD i 0) i)) fun i=>takeN (dropN [intV ((nd ns root.toNat).kids.getD ((j:Int)).toNat 0)] (i*1)) 1)).le (rowA (s0.ps.length+1) (fun i=>(s0.ps++[(q:Int)]).getD i 0)):=by
    rw [hqv];exact ps_snoc
   refine loop_up (ι:=Nat) [1,2,3,6,7,8,10,11,35,36,37,57,58] (fun i=>[(59,intV i)]) (fun i=>[(2,grB (s0.n+i) (s0.ps.length+1)),(5,gnA (s0.n+i) (endsJ s0.n s0.f (q:Int) (s0.ps.length:Int) i)),(6,rowA (s0.ps.length+1) (fun i=>(s0.ps++[(q:Int)]).getD i 0))])
    (fun i=>i≤3) (fun i=>3 - i) 0 ⟨AV.le_refl _,trivial⟩ ⟨upLe1 rfl (ABlk.le_refl _),upLe1 rfl (ABlk.le_refl _),upLe1 rfl hps,trivial⟩ (by decide) ?_
   rintro Z hlz i hi ihz
   have hi:i=0∨i=1∨i=2∨i=3:=by omega
   rcases hi with rfl|rfl|rfl|rfl
   ·skip
    conv=>whnf
    refine Chk.mk ⟨rfl,rfl,by decide,by decide,rfl⟩ ?_
    conv=>whnf
    refine Chk.mk ⟨rfl,rfl⟩ ?_
    conv=>whnf
    refine Chk.mk ⟨rfl,rfl,rfl,allLt_ok ⟨trivial,rfl⟩⟩ ?_
    conv=>whnf
    refine Chk.mk ⟨rfl,rfl,rfl,rfl,(by show (s0.n+0+1)*56≤140737488355328;omega),(by show s0.n+0+1≤9223372036854775807;omega)⟩ ?_
    conv=>whnf
    refine hlz _ _ (Le.cutEnv 9 rfl rfl ⟨rfl,rfl,rfl,ofG_cl,rfl,nd_cl rfl,fun _ _=>rfl,row1_cl,row3_cl,trivial⟩ ?_ ?_) (ihz 1 (by decide) (by decide))
    ·skip
     repeat' (first|exact trivial|((conv=>whnf);first|exact trivial|refine⟨AV.le_refl _,?_⟩|refine⟨ABlk.le_refl _,?_⟩|fail)|fail)
    ·skip
     iterate 5 ((conv=>whnf);refine⟨ABlk.le_refl _,?_⟩)
     (conv=>whnf);refine⟨gn_snoc (x:=⟨1,q,s0.ps.length,[],-1⟩) (congrArg (fun v=>[intV 1,intV v,intV (s0.ps.length:Int),.p .nils,intV (-1)]) hqv),?_⟩
     iterate 3 ((conv=>whnf);refine⟨ABlk.le_refl _,?_⟩)
     (conv=>whnf);exact trivial
   ·skip
    conv=>whnf
    refine Chk.mk ⟨rfl,rfl,by decide,by decide,rfl⟩ ?_
    conv=>whnf
    refine Chk.mk ⟨rfl,rfl⟩ ?_
    conv=>whnf
    refine Chk.mk ⟨rfl,rfl,rfl,allLt_ok ⟨trivial,rfl⟩⟩ ?_
    conv=>whnf
    refine Chk.mk ⟨rfl,rfl,rfl,rfl,(by show (s0.n+1+1)*56≤140737488355328;omega),(by show s0.n+1+1≤9223372036854775807;omega)⟩ ?_
    conv=>whnf
    refine hlz _ _ (Le.cutEnv 9 rfl rfl ⟨rfl,rfl,rfl,ofG_cl,rfl,nd_cl rfl,fun _ _=>rfl,row1_cl,row3_cl,trivial⟩ ?_ ?_) (ihz 2 (by decide) (by decide))
    ·skip
     repeat' (first|exact trivial|((conv=>whnf);first|exact trivial|refine⟨AV.le_refl _,?_⟩|refine⟨ABlk.le_refl _,?_⟩|fail)|fail)
    ·skip
     iterate 5 ((conv=>whnf);refine⟨ABlk.le_refl _,?_⟩)
     (conv=>whnf);refine⟨gn_snoc (x:=⟨2,q,s0.ps.length,[],-1⟩) (congrArg (fun v=>[intV 2,intV v,intV (s0.ps.length:Int),.p .nils,intV (-1)]) hqv),?_⟩
     iterate 3 ((conv=>whnf);refine⟨ABlk.le_refl _,?_⟩)
     (conv=>whnf);exact trivial
   ·skip
    conv=>whnf
    refine Chk.mk ⟨rfl,rfl,by decide,by decide,rfl⟩ ?_
    conv=>whnf
    refine Chk.mk ⟨rfl,rfl⟩ ?_
    conv=>whnf
    refine Chk.mk ⟨rfl,rfl,rfl,allLt_ok ⟨trivial,rfl⟩⟩ ?_
    conv=>whnf
    refine Chk.mk ⟨rfl,rfl,rfl,rfl,(by show (s0.n+2+1)*56≤140737488355328;omega),(by show s0.n+2+1≤9223372036854775807;omega)⟩ ?_
    conv=>whnf
    refine hlz _ _ (Le.cutEnv 9 rfl rfl ⟨rfl,rfl,rfl,ofG_cl,rfl,nd_cl rfl,fun _ _=>rfl,row1_cl,row3_cl,trivial⟩ ?_ ?_) (ihz 3 (by decide) (by decide))
    ·skip
     repeat' (first|exact trivial|((conv=>whnf);first|exact trivial|refine⟨AV.le_refl _,?_⟩|refine⟨ABlk.le_refl _,?_⟩|fail)|fail)
    ·skip
     iterate 5 ((conv=>whnf);refine⟨ABlk.le_refl _,?_⟩)
     (conv=>whnf);refine⟨gn_snoc (x:=⟨3,q,s0.ps.length,[],-1⟩) (congrArg (fun v=>[intV 3,intV v,intV (s0.ps.length:Int),.p .nils,intV (-1)]) hqv),?_⟩
     iterate 3 ((conv=>whnf);refine⟨ABlk.le_refl _,?_⟩)
     (conv=>whnf);exact trivial
   obtain⟨s1,hs1⟩:∃ s1,stepsS ns (s0.ps.length:Int) (q - s0.fst) s0.fst ⟨s0.n+3,endsS s0.n s0.f (q:Int) (s0.ps.length:Int),s0.of⟩=s1:=⟨_,rfl⟩
   conv=>whnf
   refine loop_up (ι:=B1) [1,2,3,6,7,8,10,11,14,35,36,37] (fun c=>[(15,intV c.i)]) (fun c=>[(2,grB c.s.n (s0.ps.length+1)),(3,.mp (.int .i64) (ofG c.s.of) []),(5,gnA c.s.n c.s.f)])
    (fun c=>s0.fst≤c.i∧c.i≤q∧stepsS ns (s0.ps.length:Int) (q - c.i) c.i c.s=s1∧c.s.n≤3+s0.n+c.i) (fun c=>q - c.i) ⟨s0.fst,⟨s0.n+3,endsS s0.n s0.f (q:Int) (s0.ps.length:Int),s0.of⟩⟩
    ⟨AV.le_refl _,trivial⟩ ⟨upLe1 rfl (ABlk.le_refl _),upLe1 rfl (ABlk.le_refl _),upLe1 rfl (ABlk.le_refl _),trivial⟩ ⟨Nat.le_refl _,hlo,hs1,by simp only;omega⟩ ?_
   rintro Z1 hlz1 ⟨i,t⟩ ⟨hi1,hi2,hst1,hn1⟩ ihz1
   simp only at hi1 hi2 hst1 hn1
   conv=>whnf
   refine two_dec (fun h4=>?_) (fun h4=>?_)
   ·have h4:i<q:=by
     have h4:(i:Int)<(nd ns root.toNat).kids.getD ((j:Int)).toNat 0:=h4
     rw [hqv] at h4;omega
    rw [show q - i=(q - (i+1))+1 by omega] at hst1
    simp only [stepsS] at hst1
    have hwi:=wzz (i:=i) (by omega)
    have hil:(i:Int)<(ns.length:Int):=by omega
    have hno:stB (nd ns i).k=false→stepsS ns (s0.ps.length:Int) (q - (i+1)) (i+1) t=s1:=fun e=>by rw [e] at hst1;exact hst1
    have hyes:stB (nd ns i).k=true→stepsS ns (s0.ps.length:Int) (q - (i+1)) (i+1) ⟨t.n+1,addG t.n t.f ⟨4,(i:Int),(s0.ps.length:Int),[],-1⟩,insO t.of i t.n⟩=s1:=fun e=>by rw [e] at hst1;exact hst1
    conv=>whnf
    refine Chk.mk ⟨Int.natCast_nonneg _,hil,rfl⟩ ?_
    conv=>whnf
    refine two_dec (fun h7=>?_) (fun h7=>?_)
    ·have h7:(nd ns i).k≥7:=h7
     conv=>whnf
     refine two_dec (fun h17=>?_) (fun h17=>?_)
     ·have h17:(nd ns i).k≤17:=h17
      have hst1:=hyes (stB_iff.2 ⟨h7,h17⟩)
      conv=>whnf
      refine Chk.mk ⟨rfl,rfl,rfl,allLt_ok ⟨trivial,rfl⟩⟩ ?_
      conv=>whnf
      refine Chk.mk ⟨rfl,rfl,rfl,rfl,(by show (t.n+1)*56≤140737488355328;omega),(by show t.n+1≤9223372036854775807;omega)⟩ ?_
      conv=>whnf
      refine hlz1 _ _ (Le.cutEnv 9 rfl rfl ⟨rfl,rfl,rfl,fun κ a h=>ofG_cl κ a ((congrFun (ofG_ins rfl) κ).symm.trans h),rfl,nd_cl rfl,fun _ _=>rfl,row1_cl,row3_cl,trivial⟩ ?_ ?_) (ihz1 ⟨i+1,⟨t.n+1,addG t.n t.f ⟨4,(i:Int),(s0.ps.length:Int),[],-1⟩,insO t.of i t.n⟩⟩ (by simp only;omega) ⟨by simp only;omega,by simp only;omega,hst1,by simp only;omega⟩)
      ·skip
       repeat' (first|exact trivial|((conv=>whnf);first|exact trivial|refine⟨AV.le_refl _,?_⟩|refine⟨ABlk.le_refl _,?_⟩|(refine⟨AV.le_of_eq ?_,?_⟩;focus ((first|exact congrArg intV hwi|fail);done))|(refine⟨ABlk.le_of_eq ?_,?_⟩;focus ((first|exact congrArg intV hwi|fail);done))|fail)|fail)
      ·skip
       iterate 3 ((conv=>whnf);refine⟨ABlk.le_refl _,?_⟩)
       (conv=>whnf);refine⟨ABlk.le_of_eq (congrArg (fun g=>ABlk.mp (.int .i64) g []) (ofG_ins rfl)),?_⟩
       iterate 1 ((conv=>whnf);refine⟨ABlk.le_refl _,?_⟩)
       (conv=>whnf);refine⟨gn_snoc (x:=⟨4,i,s0.ps.length,[],-1⟩) rfl,?_⟩
       iterate 3 ((conv=>whnf);refine⟨ABlk.le_refl _,?_⟩)
       (conv=>whnf);exact trivial
     ·have h17:¬ (nd ns i).k≤17:=h17
      have hst1:=hno (by simp [stB,h17])
      conv=>whnf
      refine hlz1 _ _ (Le.cutEnv 9 rfl rfl ⟨rfl,rfl,rfl,ofG_cl,rfl,fun _ _=>rfl,fun _ _=>rfl,row1_cl,row3_cl,trivial⟩ ?_ ?_) (ihz1 ⟨i+1,t⟩ (by simp only;omega) ⟨by simp only;omega,by simp only;omega,hst1,by simp only;omega⟩)
      ·skip
       repeat' (first|exact trivial|((conv=>whnf);first|exact trivial|refine⟨AV.le_refl _,?_⟩|refine⟨ABlk.le_refl _,?_⟩|(refine⟨AV.le_of_eq ?_,?_⟩;focus ((first|exact congrArg intV hwi|fail);done))|(refine⟨ABlk.le_of_eq ?_,?_⟩;focus ((first|exact congrArg intV hwi|fail);done))|fail)|fail)
      ·skip
       repeat' (first|exact trivial|((conv=>whnf);first|exact trivial|refine⟨AV.le_refl _,?_⟩|refine⟨ABlk.le_refl _,?_⟩|fail)|fail)
    ·have h7:¬ (nd ns i).k≥7:=h7
     have hst1:=hno (by simp [stB];omega)
     conv=>whnf
     refine hlz1 _ _ (Le.cutEnv 9 rfl rfl ⟨rfl,rfl,rfl,ofG_cl,rfl,fun _ _=>rfl,fun _ _=>rfl,row1_cl,row3_cl,trivial⟩ ?_ ?_) (ihz1 ⟨i+1,t⟩ (by simp only;omega) ⟨by simp only;omega,by simp only;omega,hst1,by simp only;omega⟩)
     ·skip
      repeat' (first|exact trivial|((conv=>whnf);first|exact trivial|refine⟨AV.le_refl _,?_⟩|refine⟨ABlk.le_refl _,?_⟩|(refine⟨AV.le_of_eq ?_,?_⟩;focus ((first|exact congrArg intV hwi|fail);done))|(refine⟨ABlk.le_of_eq ?_,?_⟩;focus ((first|exact congrArg intV hwi|fail);done))|fail)|fail)
     ·skip
      repeat' (first|exact trivial|((conv=>whnf);first|exact trivial|refine⟨AV.le_refl _,?_⟩|refine⟨ABlk.le_refl _,?_⟩|fail)|fail)
   ·have h4:q=i:=by
     have h4:¬ (i:Int)<(nd ns root.toNat).kids.getD ((j:Int)).toNat 0:=h4
     rw [hqv] at h4;omega
    subst h4
    rw [Nat.sub_self] at hst1
    simp only [stepsS] at hst1
    have hst1:=hst1.symm
    subst hst1
    obtain⟨l,b,hkids,hkb,_⟩:=rt.body hql h3
    obtain⟨b0,b1,b2⟩:=rt.kid q hql b (by rw [hkids];simp)
    have hkR:(ns.getD ((nd ns root.toNat).kids.getD ((j:Int)).toNat 0).toNat default).kids=l++[b]:=by rw [hqv];exact hkids
    have hll:l.length<4000:=by have:=rt.many q hql;rw [hkids] at this;simp at this;omega
    have hwl:IntKind.i64.wrap (((ns.getD ((nd ns root.toNat).kids.getD ((j:Int)).toNat 0).toNat default).kids.length:Int) - 1)=(l.length:Int):=by
     rw [hkR,show ((l++[b]).length:Int) - 1=(l.length:Int) by simp,w64 ⟨by omega,by omega⟩]
    have hc0:0≤IntKind.i64.wrap (((ns.getD ((nd ns root.toNat).kids.getD ((j:Int)).toNat 0).toNat default).kids.length:Int) - 1):=by rw [hwl];omega
    have hc1:IntKind.i64.wrap (((ns.getD ((nd ns root.toNat).kids.getD ((j:Int)).toNat 0).toNat default).kids.length:Int) - 1)<((ns.getD ((nd ns root.toNat).kids.getD ((j:Int)).toNat 0).toNat default).kids.length:Int):=by rw [hwl,hkR];simp;omega
    have hbq:(ns.getD ((nd ns root.toNat).kids.getD ((j:Int)).toNat 0).toNat default).kids.getD (IntKind.i64.wrap (((ns.getD ((nd ns root.toNat).kids.getD ((j:Int)).toNat 0).toNat default).kids.length:Int) - 1)).toNat 0=(b.toNat:Int):=by
     rw [hwl,hkR];simp [Int.toNat_of_nonneg b0]
    have hfo:IntKind.i64.wrap (IntKind.i64.wrap (((s0.n+3:Nat):Int) - 3)+1)=(s0.n:Int)+1:=by
     rw [show (((s0.n+3:Nat):Int) - 3)=(s0.n:Int) by omega,w64 (n:=(s0.n:Int)) ⟨by omega,by omega⟩,w64 ⟨by omega,by omega⟩]
    have hhd:IntKind.i64.wrap (IntKind.i64.wrap (((s0.n+3:Nat):Int) - 3)+2)=(s0.n:Int)+2:=by
     rw [show (((s0.n+3:Nat):Int) - 3)=(s0.n:Int) by omega,w64 (n:=(s0.n:Int)) ⟨by omega,by omega⟩,w64 ⟨by omega,by omega⟩]
    have hen:IntKind.i64.wrap (((s0.n+3:Nat):Int) - 3)=(s0.n:Int):=by
     rw [show (((s0.n+3:Nat):Int) - 3)=(s0.n:Int) by omega,w64 (n:=(s0.n:Int)) ⟨by omega,by omega⟩]
    have S:=steps_ok ns (s0.ps.length:Int) (q - s0.fst) s0.fst ⟨s0.n+3,endsS s0.n s0.f (q:Int) (s0.ps.length:Int),s0.of⟩
    rw [hs1] at S
    have hSle:=S.le
    simp only at hSle
    have hof:OfOk ns s1.of s1.n b.toNat:=fun i g1 g2 g3=>by
     have:=sh.hout
     obtain⟨x,a1,_,a3,_⟩:=S.new i (by omega) (by omega) g3
     exact⟨x,a1,a3⟩
    obtain⟨bg,G,hbl⟩:∃ bg G,flBlock ns s1.of ((s0.n:Int)+1) 4000 b.toNat ((s0.n:Int)+1) ((s0.n:Int)+2) s1.f=(bg,G):=⟨_,_,rfl⟩
    have e3:stepB ns s0 q=⟨s1.n,setG G s0.n [bg] (G s0.n).ra,s1.of,s0.ps++[(q:Int)],q+1⟩:=by
     have hbody:(nd ns q).kids.getD ((nd ns q).kids.length - 1) 0=b:=by rw [hkids];simp
     simp only [stepB,beq_iff_eq.2 h3,layS,hs1,hbody,hbl]
    rw [e3] at hnext hbd
    have he0:0≤IntKind.i64.wrap (((s0.n+3:Nat):Int) - 3):=by rw [hen];omega
    have he1:IntKind.i64.wrap (((s0.n+3:Nat):Int) - 3)<(s1.n:Int):=by rw [hen];omega
    conv=>whnf
    refine Chk.mk ⟨hb0,hb1,rfl⟩ ?_
    conv=>whnf
    refine Chk.mk ⟨hc0,hc1,rfl⟩ ?_
    conv=>whnf
    refine⟨ns,root,s1.n,s1.f,s1.of,(s0.n:Int)+1,s0.ps.length+1,_,b.toNat,(s0.n:Int)+1,(s0.n:Int)+2,_,_,_,_,_,bg,G,rfl,rfl,hbq,hfo,hhd,hfo,rt,by omega,hkb,hof,hbl,?_⟩
    conv=>whnf
    repeat ((refine And.intro ?_ ?_);(focus ((conv=>whnf);first|done|exact⟨⟨hc0,hc1,rfl⟩,by conv=>whnf⟩|exact⟨⟨rfl,Nat.zero_add _,he0,he1,rfl⟩,by conv=>whnf⟩));conv=>whnf)
    refine Chk.mk ⟨rfl,Nat.zero_add _,he0,he1,rfl⟩ ?_
    conv=>whnf
    refine Chk.mk ⟨rfl,rfl⟩ ?_
    conv=>whnf
    have hpl2:s0.ps.length+1=(s0.ps++[(q:Int)]).length:=by simp
    have hea:0+(IntKind.i64.wrap (((s0.n+3:Nat):Int) - 3)).toNat=s0.n:=by rw [hen];simp
    refine hle _ _ (Le.trans (Le.fz7 (r:=2) (b5':=gnA s1.n (setG G s0.n [bg] (G s0.n).ra)) (kidF [bg]) rfl (row1 rfl) (.inr ⟨_,_,_,_,_,_,rfl,rfl,gn_fz rfl rfl fun i=>gn_upd1 hea rfl i⟩)) (Le.cutEnv 7 rfl rfl stK_cl ?_ ?_))
     (ih ⟨⟨s1.n,setG G s0.n [bg] (G s0.n).ra,s1.of,s0.ps++[(q:Int)],q+1⟩,j+1,(s0.n:Int)+1⟩ (by simp only;omega) ⟨by simp only;omega,hnext,hbd,by simp only [List.length_append,List.length_cons,List.length_nil];omega⟩)
    ·skip
     repeat' (first|exact trivial|((conv=>whnf);first|exact trivial|refine⟨AV.le_refl _,?_⟩|refine⟨ABlk.le_refl _,?_⟩|(refine⟨AV.le_of_eq ?_,?_⟩;focus ((first|exact congrArg intV hw1|exact congrArg intV hwq|fail);done))|(refine⟨ABlk.le_of_eq ?_,?_⟩;focus ((first|exact congrArg intV hw1|exact congrArg intV hwq|fail);done))|fail)|fail)
    ·skip
     repeat' (first|exact trivial|((conv=>whnf);first|exact trivial|refine⟨AV.le_refl _,?_⟩|refine⟨ABlk.le_refl _,?_⟩|(refine⟨AV.le_of_eq ?_,?_⟩;focus ((first|exact congrArg (grB s1.n) hpl2|exact congrArg (fun m=>rowA m fun i=>(s0.ps++[(q:Int)]).getD i 0) hpl2|fail);done))|(refine⟨ABlk.le_of_eq ?_,?_⟩;focus ((first|exact congrArg (grB s1.n) hpl2|exact congrArg (fun m=>rowA m fun i=>(s0.ps++[(q:Int)]).getD i 0) hpl2|fail);done))|fail)|fail)
  ·have h3:(nd ns q).k≠3:=by
    have h3:(nd ns ((nd ns root.toNat).kids.getD ((j:Int)).toNat 0).toNat).k≠3:=h3
    rw [hqv] at h3;exact h3
   have e3:stepB ns s0 q=⟨s0.n,s0.f,s0.of,s0.ps,q+1⟩:=by simp only [stepB,beq_eq_false_iff_ne.2 h3]
   rw [e3] at hnext hbd
   conv=>whnf
   refine hle _ _ (Le.cutEnv 7 rfl rfl stK_cl ?_ ?_) (ih ⟨⟨s0.n,s0.f,s0.of,s0.ps,q+1⟩,j+1,ex⟩ (by simp only;omega) ⟨by simp only;omega,hnext,hbd,by simp only;omega⟩)
   ·skip
    repeat' (first|exact trivial|((conv=>whnf);first|exact trivial|refine⟨AV.le_refl _,?_⟩|refine⟨ABlk.le_refl _,?_⟩|(refine⟨AV.le_of_eq ?_,?_⟩;focus ((first|exact congrArg intV hw1|exact congrArg intV hwq|fail);done))|(refine⟨ABlk.le_of_eq ?_,?_⟩;focus ((first|exact congrArg intV hw1|exact congrArg intV hwq|fail);done))|fail)|fail)
   ·skip
    repeat' (first|exact trivial|((conv=>whnf);first|exact trivial|refine⟨AV.le_refl _,?_⟩|refine⟨ABlk.le_refl _,?_⟩|fail)|fail)
 ·obtain rfl:j=(nd ns root.toNat).kids.length:=by have h:¬ (j:Int)<((nd ns root.toNat).kids.length:Int):=h;omega
  rw [List.drop_length] at hbd
  simp only [buildR] at hbd
  subst hbd
  conv=>whnf
  exact hr _ _ _ _ (Wk1.fzAll (fzv_graph rfl rfl)) rfl hk
set_option maxHeartbeats 1000000
theorem small8_ok:COk 27 (cSmall 300):=by
 rintro args K k ⟨ns,root,rfl,hk⟩
 refine frame0P g0_ok 19 rfl fun Q hr=>?_
 conv=>whnf
 refine two_dec (fun h=>?_) (fun h=>?_)
 ·have h:¬ ns.length≤300:=by have h:(ns.length:Int)>300:=h;omega
  rw [show smallS 300 ns=false by simp [smallS,h]] at hk
  conv=>whnf
  exact hr _ _ rfl hk
 have h:ns.length≤300:=by have h:¬ (ns.length:Int)>300:=h;omega
 conv=>whnf
 refine loop_up (ι:=Nat) [1] (fun i=>[(3,intV i)]) (fun _=>[]) (fun i=>i≤ns.length∧(ns.drop i).all (fun n=>decide (n.kids.length≤300)&&decide (n.tx.length≤200))=smallS 300 ns) (fun i=>ns.length - i) 0 ⟨AV.le_refl _,trivial⟩ trivial ⟨Nat.zero_le _,by simp [smallS,h]⟩ ?_
 rintro Y hle i ⟨hi,he⟩ ih
 conv=>whnf
 refine two_dec (fun h2=>?_) (fun h2=>?_)
 ·have h2:i<ns.length:=by have h2:(i:Int)<(ns.length:Int):=h2;omega
  have hw1:=wzz (i:=i) (by omega)
  rw [List.drop_eq_getElem_cons h2,List.all_cons] at he
  have e1:ns[i]=nd ns i:=by simp [nd,h2]
  rw [e1] at he
  conv=>whnf
  refine⟨⟨by omega,by omega,rfl⟩,?_⟩
  conv=>whnf
  refine two_dec (fun h3=>?_) (fun h3=>?_)
  ·have h3:¬ (nd ns i).kids.length≤300:=by have h3:((nd ns i).kids.length:Int)>300:=h3;omega
   rw [decide_eq_false h3,Bool.false_and,Bool.false_and] at he
   rw [← he] at hk
   conv=>whnf
   exact hr _ _ rfl hk
  have h3:(nd ns i).kids.length≤300:=by have h3:¬ ((nd ns i).kids.length:Int)>300:=h3;omega
  rw [decide_eq_true h3,Bool.true_and] at he
  conv=>whnf
  refine⟨⟨by omega,by omega,rfl⟩,?_⟩
  conv=>whnf
  refine two_dec (fun h4=>?_) (fun h4=>?_)
  ·have h4:¬ (nd ns i).tx.length≤200:=by have h4:((nd ns i).tx.length:Int)>200:=h4;omega
   rw [decide_eq_false h4,Bool.false_and] at he
   rw [← he] at hk
   conv=>whnf
   exact hr _ _ rfl hk
  have h4:(nd ns i).tx.length≤200:=by have h4:¬ ((nd ns i).tx.length:Int)>200:=h4;omega
  rw [decide_eq_true h4,Bool.true_and] at he
  conv=>whnf
  refine hle _ _ (Le.env ?_ ?_) (ih (i+1) (by omega) ⟨by omega,he⟩)
  ·skip
   repeat' (first|exact trivial|((conv=>whnf);first|exact trivial|refine⟨AV.le_refl _,?_⟩|refine⟨ABlk.le_refl _,?_⟩|(refine⟨AV.le_of_eq ?_,?_⟩;focus ((first|exact congrArg intV hw1|fail);done))|(refine⟨ABlk.le_of_eq ?_,?_⟩;focus ((first|exact congrArg intV hw1|fail);done))|fail)|fail)
  ·skip
   repeat' (first|exact trivial|((conv=>whnf);first|exact trivial|refine⟨AV.le_refl _,?_⟩|refine⟨ABlk.le_refl _,?_⟩|fail)|fail)
 ·obtain rfl:i=ns.length:=by have h2:¬ (i:Int)<(ns.length:Int):=h2;omega
  rw [List.drop_length,List.all_nil] at he
  rw [← he] at hk
  conv=>whnf
  exact hr _ _ rfl hk
theorem eSmall8_ok:COk 27 (eSmall 300):=by
 rintro args K k ⟨ns,root,v,h1,rfl,h3⟩
 exact small8_ok args K k ⟨ns,root,h1,h3⟩
def pr8:List Nd:=[⟨5,1,14,[120],[]⟩,⟨18,0,32,[108,111],[]⟩,⟨9,0,25,[120],[1]⟩,⟨22,0,39,[120],[]⟩,⟨20,1,43,[],[]⟩,⟨27,0,41,[60],[3,4]⟩,⟨18,0,51,[108,111],[]⟩,⟨22,0,54,[120],[]⟩,⟨10,0,47,[],[6,7]⟩,⟨6,0,45,[],[8]⟩,⟨6,0,36,[],[]⟩,⟨11,0,36,[],[5,9,10]⟩,⟨6,0,12,[],[2,11]⟩,⟨3,0,0,[109,97,105,110],[0,12]⟩,⟨1,0,0,[],[13]⟩]
def gr8:List GN:=[⟨1,13,0,[3],-1⟩,⟨2,13,0,[],-1⟩,⟨3,13,0,[],-1⟩,⟨4,2,0,[5],-1⟩,⟨4,8,0,[1],-1⟩,⟨4,11,0,[4,1],-1⟩]
def bs8:BSt:=⟨6,fun i=>gr8.getD i default,fun _=>none,[13],14⟩
theorem pr8_eq:proS [112,114,111,99,32,109,97,105,110,40,41,32,123,32,118,97,114,32,120,32,105,110,116,59,32,120,32,61,32,105,110,32,108,111,59,32,105,102,32,120,32,60,32,49,32,123,32,111,117,116,32,108,111,32,120,59,32,125,32,125]=.ok pr8 14 2:=by kernel_rfl
theorem ck8_eq:checkTree pr8 14=(0,0):=by kernel_rfl
theorem pr8_tame:Tame pr8:=small_tame (m:=400) (by decide) (by kernel_rfl)
def gnB (a b:GN):Bool:=a.k==b.k&&(a.pl==b.pl&&(a.pr==b.pr&&(a.nx==b.nx&&a.ra==b.ra)))
theorem gnB_eq {a b:GN} (h:gnB a b=true):a=b:=by
 simp only [gnB,Bool.and_eq_true,beq_iff_eq] at h
 obtain⟨h1,h2,h3,h4,h5⟩:=h
 cases a;cases b
 simp only at h1 h2 h3 h4 h5
 subst h1 h2 h3 h4 h5
 rfl
theorem bs8_n:(buildS pr8 14).n=6:=by kernel_rfl
theorem bs8_ps:(buildS pr8 14).ps=[13]:=by kernel_rfl
theorem bs8_all:(List.range 6).all (fun i=>gnB ((buildS pr8 14).f i) (gr8.getD i default))=true:=by kernel_rfl
theorem bs8_f:∀ i,i<6→(buildS pr8 14).f i=gr8.getD i default:=fun i hi=>by
 have:=List.all_eq_true.1 bs8_all i (List.mem_range.2 hi)
 exact gnB_eq this
theorem agg_le {l l':List AV} (h:lesL l l'):(AV.agg l).le (.agg l'):=fun w m u hV=>by
 obtain⟨h1,h2⟩:=h.get
 cases hV with
 | agg _ A hA hv=>exact .agg _ A (by omega) fun j hj hj'=>h2 j (by omega) hj _ _ _ (hv j (by omega) hj')
def pvLe (a b:PV):Prop:=∀ w I u,VP w I a u→VP w I b u
theorem sl_leP {sz n n':Nat} {f f':Nat→List PV} (hn:n'=n) (h:∀ i,i<n→(f i).length=(f' i).length∧∀ j (hj:j<(f i).length) (hj':j<(f' i).length),pvLe (f i)[j] (f' i)[j]):(AV.p (.sl sz n f)).le (.p (.sl sz n' f')):=fun w m u hv=>by
 subst hn
 cases hv with
 | p _ _ hv =>
  cases hv with
  | sl0 _ _ a c=>exact .p _ _ (.sl0 sz f' a c)
  | sl _ _ _ b o c u hI hcap hc hv =>
   refine .p _ _ (.sl sz n' f' b o c u hI hcap (fun i hi j hj=>?_) (fun i hi j hj=>?_))
   ·exact hc i hi j (by rw [(h i hi).1];exact hj)
   ·exact (h i hi).2 j (by rw [(h i hi).1];exact hj) hj _ _ _ (hv i hi j (by rw [(h i hi).1];exact hj))
theorem pvLe_refl (a:PV):pvLe a a:=fun _ _ _ h=>h
theorem nxP_le (l:List Int):pvLe (nxP l) (.sl 1 l.length (kidF l)):=fun w I u h=>by
 cases l with
 | nil =>
  cases h
  exact .sl0 ..
 | cons a l=>exact h
theorem gnF_le {f f':Nat→GN} {n n':Nat} (hn:n'=n) (hf:∀ i,i<n→f i=f' i):(AV.p (.sl 5 n (gnF f))).le (.p (.sl 5 n' (gnW f'))) :=
 sl_leP hn fun i hi=>⟨rfl,fun j hj hj'=>by
  have hfi:=hf i hi
  rcases j with _|_|_|_|_|j
  ·show pvLe (.int .i64 (f i).k) (.int .i64 (f' i).k);rw [hfi];exact pvLe_refl _
  ·show pvLe (.int .i64 (f i).pl) (.int .i64 (f' i).pl);rw [hfi];exact pvLe_refl _
  ·show pvLe (.int .i64 (f i).pr) (.int .i64 (f' i).pr);rw [hfi];exact pvLe_refl _
  ·show pvLe (nxP (f i).nx) (.sl 1 (f' i).nx.length (kidF (f' i).nx));rw [hfi];exact nxP_le _
  ·show pvLe (.int .i64 (f i).ra) (.int .i64 (f' i).ra);rw [hfi];exact pvLe_refl _
  ·simp [gnF] at hj;omega⟩
theorem graph_weak (s:BSt):(graphV s).le (graphW s):=agg_le ⟨gnF_le rfl fun _ _=>rfl,AV.le_refl _,trivial⟩
def eBuildL:AC:=fun args K k=>∃ ns root a s s',args=[treeV ns root]∧Tame ns∧checkTree ns root=(a,0)∧buildS ns root=s∧s.n=s'.n∧s.ps=s'.ps∧(∀ i,i<s.n→s.f i=s'.f i)∧k (.ret (.tup [graphW s',intV 0])) K
theorem eBuildL_ok:COk 28 eBuildL:=by
 rintro args K k ⟨ns,root,a,s,s',rfl,ta,hc,hs,hn,hp,hf,hk⟩
 refine ACalls.post (k:=fun ao K1=>ao=.ret (.tup [graphV s,intV 0])∧K1=K) (build_okW _ _ _ ⟨ns,root,a,0,s,rfl,ta,hc,hs,fun h=>absurd rfl h,fun _=>⟨rfl,rfl⟩⟩) ?_
 rintro ao K1 ⟨rfl,rfl⟩
 exact⟨.tup [graphW s',intV 0],K1,Wk1.le (AV.tup_le ⟨agg_le ⟨gnF_le hn.symm hf,AV.le_of_eq (by rw [hp]),trivial⟩,AV.le_refl _,trivial⟩) (lesK.refl _),hk⟩
def gS8:AG:=gput 43 (cTop proS) (gput 28 eBuildL (gput 33 (eEnds 1) (gput 35 (eEnds 2) (gput 36 (eEnds 3) g0))))
theorem gS8_ok:GOk Tryz.prog gS8:=gput_ok Program_ok (gput_ok eBuildL_ok (gput_ok entry_ok (gput_ok exit_ok (gput_ok fail_ok8 g0_ok))))
theorem shown8_ok:COk 26 cShown7:=by
 rintro args K k ⟨rfl,hk⟩
 refine frame0P gS8_ok 19 rfl fun Q hr=>?_
 conv=>whnf
 refine⟨_,rfl,by decide,?_⟩
 rw [pr8_eq]
 conv=>whnf
 refine⟨pr8,14,0,_,bs8,rfl,pr8_tame,ck8_eq,rfl,bs8_n,bs8_ps,fun i hi=>bs8_f i (by rw [bs8_n] at hi;exact hi),?_⟩
 conv=>whnf
 repeat
  (refine⟨⟨by decide,by decide,rfl⟩,?_⟩
   conv=>whnf)
 refine loop_up (ι:=Nat) [0,1] (fun i=>[(5,intV i)]) (fun _=>[]) (fun i=>i≤1) (fun i=>1 - i) 0 ⟨AV.le_refl _,trivial⟩ trivial (by decide) ?_
 rintro Y hle i hi ih
 have hi:i=0∨i=1:=by omega
 rcases hi with rfl|rfl
 ·conv=>whnf
  refine⟨⟨by decide,by decide,rfl⟩,?_⟩
  conv=>whnf
  refine Chk.mk ⟨rfl,rfl,by decide,by decide,rfl⟩ ?_
  conv=>whnf
  refine Chk.mk ⟨rfl,rfl⟩ ?_
  conv=>whnf
  refine hle _ _ (Le.env ?_ ?_) (ih 1 (by decide) (by decide))
  ·skip
   repeat' (first|exact trivial|((conv=>whnf);first|exact trivial|refine⟨AV.le_refl _,?_⟩|refine⟨ABlk.le_refl _,?_⟩|fail)|fail)
  ·skip
   repeat' (first|exact trivial|((conv=>whnf);first|exact trivial|refine⟨AV.le_refl _,?_⟩|refine⟨ABlk.le_refl _,?_⟩|fail)|fail)
 ·conv=>whnf
  repeat
   (refine⟨⟨by decide,by decide,rfl⟩,?_⟩
    conv=>whnf)
  refine⟨bs8,0,0,rfl,by decide,by kernel_rfl,?_⟩
  conv=>whnf
  refine⟨bs8,0,1,rfl,by decide,by kernel_rfl,?_⟩
  conv=>whnf
  refine⟨bs8,0,2,rfl,by decide,by kernel_rfl,?_⟩
  conv=>whnf
  exact hr _ _ rfl hk
end Go.Proofs.YtojjkleplnijaaaGreatDoor
namespace Go.Ru
theorem crS_le (ns:List Nd) (root q num:Int):∀ (m i:Nat) (s:Nat×(Nat→GN)),s.1≤(crS ns root q num m i s).1:=by
 intro m
 induction m with
 | zero=>intro i s;exact Nat.le_refl _
 | succ m ih =>
  intro i s
  simp only [crS]
  refine Nat.le_trans ?_ (ih (i+1) _)
  split<;>simp
theorem crP_le (ns:List Nd) (root:Int):∀ (l:List Int) (c:Int) (s:Nat×(Nat→GN)),s.1≤(crP ns root l c s).1:=by
 intro l
 induction l with
 | nil=>intro c s;exact Nat.le_refl _
 | cons q l ih =>
  intro c s
  simp only [crP]
  refine Nat.le_trans ?_ (ih _ _)
  have:=crS_le ns root q c ns.length 0 (s.1+3,endsS s.1 s.2 q c)
  simp only at this
  omega
def doneS (ns:List Nd) (root:Int) (s:BSt) (c y:Nat):Prop:=∃ c' x b,∃ q:Nat,c'<c∧c'<s.ps.length∧x+3≤s.n∧s.ps[c']?=some (q:Int)∧ProcL ns root (atO s.of) s.f c' x q b∧(y=x∨stS ns (atO s.of) b y)
theorem doneS_succ {ns:List Nd} {root:Int} {s:BSt} (B:Build8 ns root s) {c x q b:Nat} (hc:c<s.ps.length) (hx:x+3≤s.n) (hq:s.ps[c]?=some (q:Int)) (P:ProcL ns root (atO s.of) s.f c x q b) (y:Nat) :
  doneS ns root s (c+1) y↔(doneS ns root s c y∨stS ns (atO s.of) b y)∨y=x:=by
 constructor
 ·rintro⟨c',x',b',q',h1,h2,h3,h4,P',h5⟩
  by_cases e:c'<c
  ·exact .inl (.inl ⟨c',x',b',q',e,h2,h3,h4,P',h5⟩)
  ·obtain rfl:c'=c:=by omega
   rw [hq] at h4
   injection h4 with h4
   obtain rfl:q=q':=by omega
   have hb:b'=b:=by
    have h1:=P.body
    have h2:=P'.body
    rw [h1] at h2;omega
   have hx':x'=x:=by
    have h1:=(B.ends c' x q b hc hx P).1
    have h2:=(B.ends c' x' q b' hc h3 P').1
    rw [h1] at h2;omega
   subst hb hx'
   rcases h5 with h5|h5
   ·exact .inr h5
   ·exact .inl (.inr h5)
 ·rintro ((⟨c',x',b',q',h1,h⟩|h)|h)
  ·exact⟨c',x',b',q',by omega,h⟩
  ·exact⟨c,x,b,q,by omega,hc,hx,hq,P,.inr h⟩
  ·exact⟨c,x,b,q,by omega,hc,hx,hq,P,.inl h⟩
theorem done_all {ns:List Nd} {root:Int} {s:BSt} (B:Build8 ns root s) {G:Nat→GN} (hG:∀ y,y<s.n→G y=baseG (s.f y)):∀ y,y<s.n→mixF (doneS ns root s s.ps.length) s.f G y=s.f y:=fun y hy=>by
 by_cases h:doneS ns root s s.ps.length y
 ·exact mixF_yes h
 ·rw [mixF_no h,hG y hy]
  rcases B.cover y hy with e|⟨c,x,q,b,h1,h2,h3,P,h4⟩
  ·exact e.symm
  ·exact absurd ⟨c,x,b,q,h1,h1,h2,h3,P,h4⟩ h
end Go.Ru
namespace Go.AE
theorem Le.fz4 {kb:Nat} {t:List (Nat×AV)} {b0 b1 b2 b3 b3':ABlk} {Y:List ABlk} {r ty sz n:Nat} {f:Nat→List AV} (g:Nat→List PV) (hr:nth Y r=some (.arr ty sz 0 n f)) (hg:∀ i,i<n→f i=pvs (g i))
  (h3:fsxB (r+4) sz n g b3 b3'):Le kb ⟨t,b0::b1::b2::b3::Y⟩ ⟨t,b0::b1::b2::b3'::setN Y r .dead⟩ :=
 Le.fzx (r:=r+4) g hr hg ⟨.inl (.inl (ABlk.le_refl _)),.inl (.inl (ABlk.le_refl _)),.inl (.inl (ABlk.le_refl _)),h3,fsxK.refl _ _ _ _ _⟩
end Go.AE
namespace Go.Proofs.YtojjkleplnijaaaGreatDoor
open Go.AE Go.Ru
set_option maxRecDepth 100000
set_option maxHeartbeats 1000000
theorem frameN {G:AG} (hG:GOk Tryz.prog G) (n:Nat) {f:FuncId} {args:List AV} {K:List ABlk} {k:AO→List ABlk→Prop} (hcl:AV.dns K.length args=args)
  (h:∀ Q:AO→List ABlk→Prop,(∀ v K' v' K2,Wk1 0 v K' v' K2→nlK K2→k (.ret (v'.up K.length)) (K++upsB K.length K2)→Q (.ret v) K')→acall1 T0 G n f args [] Q):ACalls Tryz.prog f args K k:=by
 have e:ACalls Tryz.prog f args (K++[]) k:=by
  refine ACalls.shift (n:=K.length) (Y:=K) (K1:=[]) rfl trivial ?_
  rw [hcl]
  refine ACalls.post (k:=fun ao K1=>∃ v v' K2,ao=.ret v∧Wk1 0 v K1 v' K2∧nlK K2∧k (.ret (v'.up K.length)) (K++upsB K.length K2)) (call_ok hG n f args [] _ (h _ ?_)) ?_
  ·intro v K' v' K2 h1 h2 h3
   exact⟨v,v',K2,rfl,h1,h2,h3⟩
  ·rintro ao K1 ⟨v,v',K2,rfl,h1,h2,h3⟩
   exact⟨v',K2,h1,h2,h3⟩
 rwa [List.append_nil] at e
def rgB (s:BSt):ABlk:=.box 50 [.p (.sl 5 s.n (gnW s.f)),.p (.sl 1 s.ps.length (kidF s.ps))]
def gBd8:AG:=gput 10 eRCheck (gput 66 cRParents (gput 34 cREnd (gput 69 (cREnt 4000) (gput 68 (cRLay 4000) g0))))
theorem gBd8_ok:GOk Tryz.prog gBd8:=gput_ok rcheck_ok (gput_ok rparents_ok (gput_ok rend8_ok (gput_ok (rent8_ok (rbeg8_ok 4000)) (gput_ok (rlay8_ok (rstm8_ok 4000)) g0_ok))))
def eRBuild:AC:=fun args K k=>∃ ns root a e s,args=[treeV ns root]∧Tame ns∧Kt ns∧checkTree ns root=(a,e)∧buildS ns root=s∧(e≠0→k (.ret (.tup [.p .nilp,intV 1])) K)∧(e=0→k (.ret (.tup [.ptr (1+K.length) 0 1 0 0,intV 0])) (K++[tbx ns root,rgB s]))
theorem psR_cl {l:List Int} {f:Nat→List AV} {m:Nat} (hf:AV.cls m (f 0)=true):(ABlk.arr 3 1 0 (l.length+1) (catF l.length (fun i=>pvs (rowF (fun i=>l.getD i 0) i)) f)).cl m:=fun i hi=>by
 by_cases h:i<l.length
 ·rw [catF_lt h];rfl
 ·obtain rfl:i=l.length:=by omega
  rw [catF_ge (Nat.le_refl _),Nat.sub_self];exact hf
theorem gnR_snoc {n:Nat} {G:Nat→GN} {x:GN} {f:Nat→List AV} (hf:f 0=pvs (gnF (fun _=>x) 0)) :
  (ABlk.arr 54 5 0 (n+1) (catF n (fun i=>pvs (gnF G i)) f)).le (gnR (n+1) (addG n G x)):=by
 refine ABlk.arr_eq rfl fun i hi=>?_
 by_cases h:i<n
 ·rw [catF_lt h]
  simp [gnF,addG,show i≠n by omega]
 ·obtain rfl:i=n:=by omega
  rw [catF_ge (Nat.le_refl _),Nat.sub_self,hf]
  simp [gnF,addG]
structure N8 where
 c:Nat
 n:Nat
 G:Nat→GN
def gB8 (n np:Nat):ABlk:=.box 50 [.slr 3 0 0 n,.slr 2 0 0 np]
structure P8 where
 i:Nat
 l:List Int
def grL (l:List Int):ABlk:=.box 50 [.p .nils,.slr 2 0 0 l.length]
theorem fin8 {ns:List Nd} {root:Int} {s:BSt} {F:Nat→GN} {v:AV} (hF:∀ i,i<s.n→F i=s.f i) (hv:v.cl 2=true) :
  Wk1 0 v (rGK ns root s.n F s.ps.length (fun i=>s.ps.getD i 0)) v [tbx ns root,rgB s] :=
 Wk1.trans (Wk1.fzx (r:=2) (K':=[tbx ns root,.box 50 [.slr 3 0 0 s.n,.p (.sl 1 s.ps.length (kidF s.ps))],.dead,gnR s.n F]) (kidF s.ps) rfl (fun _ _=>rfl)
   ⟨.inl (.inl (ABlk.le_refl _)),.inl (.inr ⟨_,_,_,rfl,rfl,.inl (AV.le_refl _),.inr ⟨rfl,rfl⟩,trivial⟩),.inl (.inl (ABlk.le_refl _)),.inl (.inl (ABlk.le_refl _)),trivial⟩ (AV.le_refl _))
  (Wk1.trans (Wk1.fzx (r:=3) (K':=[tbx ns root,.box 50 [.p (.sl 5 s.n (gnF F)),.p (.sl 1 s.ps.length (kidF s.ps))],.dead,.dead]) (gnF F) rfl (fun _ _=>rfl)
   ⟨.inl (.inl (ABlk.le_refl _)),.inl (.inr ⟨_,_,_,rfl,rfl,.inr ⟨rfl,rfl⟩,.inl (AV.le_refl _),trivial⟩),.inl (.inl (ABlk.le_refl _)),.inl (.inl (ABlk.le_refl _)),trivial⟩ (AV.le_refl _))
  (Wk1.trans (Wk1.cut 2 (Nat.zero_le _) hv ⟨rfl,rfl,trivial⟩) (Wk1.le (AV.le_refl _) ⟨ABlk.le_refl _,ABlk.box_le ⟨gnF_le rfl hF,AV.le_refl _,trivial⟩,trivial⟩)))
theorem rbuild_ok:COk 29 eRBuild:=by
 rintro args K k ⟨ns,root,a,e,s,rfl,ta,kt,hc,hs,hk1,hk0⟩
 by_cases he:e=0
 case neg =>
  refine frameN gBd8_ok 19 rfl fun Q hr=>?_
  conv=>whnf
  refine⟨ns,root,a,e,rfl,ta,kt,hc,?_⟩
  conv=>whnf
  refine two_ne (fun _=>?_) (fun h=>absurd h he)
  conv=>whnf
  exact hr _ _ _ [] (Wk1.cut 0 (Nat.le_refl 0) rfl trivial) trivial (by rw [show upsB K.length []=[] from rfl,List.append_nil];exact hk1 he)
 subst he
 have hk:=hk0 rfl
 clear hk0 hk1
 have rt:=right_of (check_right hc)
 have hlen:=rt.len
 have hrt:=rt.rt
 have hpos:=rt.pos
 refine frameN gBd8_ok 19 rfl fun Q hr=>?_
 conv=>whnf
 refine⟨ns,root,a,0,rfl,ta,kt,hc,?_⟩
 conv=>whnf
 refine loop_nil (ι:=P8) 3 1 (fun i=>pvs (rowF (fun i=>([]:List Int).getD i 0) i)) (fun c=>⟨[(1,.ptr 0 0 1 0 0),(6,.ptr 1 0 1 0 0),(7,intV c.i)],[tbx ns root,grL c.l,rowA c.l.length (fun i=>c.l.getD i 0)]⟩)
  (fun c=>c.i≤ns.length∧c.l.length≤c.i∧c.l=prcL ns c.i) (fun c=>ns.length - c.i) ⟨0,[]⟩ [tbx ns root,grL []]
  rfl ⟨.inl (AV.le_refl _),.inl (AV.le_refl _),.inl (AV.le_refl _),trivial⟩ ⟨.inl (ABlk.le_refl _),.inr ⟨_,_,_,rfl,rfl,.inl (AV.le_refl _),.inr ⟨rfl,rfl⟩,trivial⟩,trivial⟩ rfl ⟨Nat.zero_le _,Nat.le_refl _,rfl⟩ ?_
 rintro Y hle ⟨i,l⟩ ⟨hi,hll,hl⟩ ih
 simp only at hi hll hl
 conv=>whnf
 refine two_dec (fun h=>?_) (fun h=>?_)
 ·have h':(i:Int)<(ns.length:Int):=h
  have h:i<ns.length:=by omega
  have hw1:=wzz (i:=i) (by omega)
  conv=>whnf
  refine Chk.mk ⟨by omega,h',rfl⟩ ?_
  conv=>whnf
  refine two_eq (fun h3=>?_) (fun h3=>?_)
  ·have h3:(nd ns i).k=3:=h3
   have hl2:l++[(i:Int)]=prcL ns (i+1):=by simp only [prcL,if_pos h3,hl]
   conv=>whnf
   refine Chk.mk ⟨rfl,rfl,rfl,allLt_ok ⟨trivial,rfl⟩⟩ ?_
   conv=>whnf
   refine Chk.mk ⟨rfl,rfl,rfl,rfl,(by show (l.length+1)*8≤140737488355328;omega),(by show l.length+1≤9223372036854775807;omega)⟩ ?_
   conv=>whnf
   refine hle _ _ (Le.cutEnv 3 rfl rfl ⟨rfl,rfl,psR_cl rfl,trivial⟩ ?_ ?_) (ih ⟨i+1,l++[(i:Int)]⟩ (by show _ - (i+1)<_ - i;omega) ⟨h,by simp;omega,hl2⟩)
   ·skip
    repeat' (first|exact trivial|((conv=>whnf);first|exact trivial|refine⟨AV.le_refl _,?_⟩|refine⟨ABlk.le_refl _,?_⟩|(refine⟨AV.le_of_eq ?_,?_⟩;focus ((first|exact congrArg intV hw1|fail);done))|(refine⟨ABlk.le_of_eq ?_,?_⟩;focus ((first|exact congrArg intV hw1|fail);done))|fail)|fail)
   ·skip
    (conv=>whnf);refine⟨ABlk.le_refl _,?_⟩
    (conv=>whnf);refine⟨ABlk.le_of_eq (congrArg (fun n=>ABlk.box 50 [.p .nils,.slr 2 0 0 n]) (show l.length+1=(l++[(i:Int)]).length by simp)),?_⟩
    (conv=>whnf);refine⟨?_,?_⟩
    ·show ABlk.le _ (rowA (l++[(i:Int)]).length _)
     rw [show (l++[(i:Int)]).length=l.length+1 by simp]
     exact ps_snoc
    ·exact trivial
  ·have h3:(nd ns i).k≠3:=h3
   have hl2:l=prcL ns (i+1):=by simp only [prcL,if_neg h3,List.append_nil,hl]
   conv=>whnf
   refine hle _ _ (Le.cutEnv 3 rfl rfl ⟨rfl,rfl,fun _ _=>rfl,trivial⟩ ?_ ?_) (ih ⟨i+1,l⟩ (by show _ - (i+1)<_ - i;omega) ⟨h,by simp only;omega,hl2⟩)
   ·skip
    repeat' (first|exact trivial|((conv=>whnf);first|exact trivial|refine⟨AV.le_refl _,?_⟩|refine⟨ABlk.le_refl _,?_⟩|(refine⟨AV.le_of_eq ?_,?_⟩;focus ((first|exact congrArg intV hw1|fail);done))|(refine⟨ABlk.le_of_eq ?_,?_⟩;focus ((first|exact congrArg intV hw1|fail);done))|fail)|fail)
   ·skip
    repeat' (first|exact trivial|((conv=>whnf);first|exact trivial|refine⟨AV.le_refl _,?_⟩|refine⟨ABlk.le_refl _,?_⟩|fail)|fail)
 have B:Build8 ns root s:=hs▸build8 rt
 have hsn:s.n≤20000:=by
  have:=cnt_law rt
  rw [hs] at this
  have:=cntB_le (stP' ns) ns.length
  omega
 obtain rfl:i=ns.length:=by have h:¬ (i:Int)<(ns.length:Int):=h;omega
 obtain rfl:l=s.ps:=hl.trans B.ps.symm
 clear ih hle
 conv=>whnf
 refine⟨ns,root,rfl,kt,rt.snd,?_⟩
 conv=>whnf
 refine loop_nil (ι:=N8) 54 5 (fun i=>pvs (gnF (fun _=>default) i)) (fun c=>⟨[(1,.ptr 0 0 1 0 0),(6,.ptr 1 0 1 0 0),(8,.p (.sl 1 ns.length (rowF (parF ns root)))),(9,intV c.c)],rGK ns root c.n c.G s.ps.length (fun i=>s.ps.getD i 0)⟩)
  (fun c=>c.c≤s.ps.length∧crP ns root (s.ps.drop c.c) (c.c:Int) (c.n,c.G)=crP ns root s.ps 0 (0,fun _=>default)) (fun c=>s.ps.length - c.c) ⟨0,0,fun _=>default⟩ [tbx ns root,gB8 0 s.ps.length,rowA s.ps.length (fun i=>s.ps.getD i 0)]
  rfl ⟨.inl (AV.le_refl _),.inl (AV.le_refl _),.inl (AV.le_refl _),.inl (AV.le_refl _),trivial⟩ ⟨.inl (ABlk.le_refl _),.inr ⟨_,_,_,rfl,rfl,.inr ⟨rfl,rfl⟩,.inl (AV.le_refl _),trivial⟩,.inl (ABlk.le_refl _),trivial⟩ rfl ⟨Nat.zero_le _,rfl⟩ ?_
 rintro Y hle ⟨c,n,G⟩ ⟨hcl,hcr⟩ ih
 simp only at hcl hcr
 have hnn:n≤s.n:=by
  have:=crP_le ns root (s.ps.drop c) (c:Int) (n,G)
  rw [hcr,B.cr.1] at this
  exact this
 conv=>whnf
 refine two_dec (fun h=>?_) (fun h=>?_)
 ·have hc':(c:Int)<(s.ps.length:Int):=h
  have h:c<s.ps.length:=by omega
  have hw1:=wzz (i:=c) (by omega)
  obtain⟨x,q,b,hx,hq,P⟩:=B.pr c h
  have hqd:s.ps.getD c 0=(q:Int):=by rw [List.getD_eq_getElem?_getD,hq];rfl
  have hqv:s.ps.getD (0+((c:Int)).toNat) 0=(q:Int):=by rw [Nat.zero_add,Int.toNat_natCast];exact hqd
  have hdr:s.ps.drop c=(q:Int)::s.ps.drop (c+1):=by
   rw [List.drop_eq_getElem_cons h]
   rw [List.getElem?_eq_getElem h] at hq
   injection hq with hq
   rw [hq]
  rw [hdr] at hcr
  simp only [crP] at hcr
  obtain⟨fin,hfin⟩:∃ fin,crS ns root (q:Int) (c:Int) ns.length 0 (n+3,endsS n G (q:Int) (c:Int))=fin:=⟨_,rfl⟩
  rw [hfin] at hcr
  have hfl:fin.1≤s.n:=by
   have:=crP_le ns root (s.ps.drop (c+1)) ((c:Int)+1) fin
   rw [hcr,B.cr.1] at this
   exact this
  have hn3:n+3≤s.n:=by
   have:=crS_le ns root (q:Int) (c:Int) ns.length 0 (n+3,endsS n G (q:Int) (c:Int))
   rw [hfin] at this
   simp only at this
   omega
  conv=>whnf
  refine loop_up (ι:=Nat) [1,6,8,9] (fun j=>[(10,intV ((j+1:Nat):Int))]) (fun j=>[(1,gB8 (n+j) s.ps.length),(3,gnR (n+j) (endsJ n G (q:Int) (c:Int) j))]) (fun j=>j≤3) (fun j=>3 - j) 0 ⟨AV.le_refl _,trivial⟩ ⟨upLe1 rfl (ABlk.le_refl _),upLe1 rfl (ABlk.le_refl _),trivial⟩ (by decide) ?_
  rintro Z hlz j hj ihz
  have hj:j=0∨j=1∨j=2∨j=3:=by omega
  rcases hj with rfl|rfl|rfl|rfl
  ·skip
   conv=>whnf
   repeat' (first|(refine Chk.mk ⟨rfl,Nat.zero_add _,by omega,hc',rfl⟩ ?_;conv=>whnf)|(refine Chk.mk ⟨rfl,rfl⟩ ?_;conv=>whnf)|(refine Chk.mk ⟨rfl,rfl,rfl,allLt_ok ⟨trivial,rfl⟩⟩ ?_;conv=>whnf)|(refine Chk.mk ⟨rfl,rfl,rfl,rfl,(by show (n+0+1)*56≤140737488355328;omega),(by show n+0+1≤9223372036854775807;omega)⟩ ?_;conv=>whnf)|(refine And.intro ?_ ?_<;>conv=>whnf)|fail)
   refine hlz _ _ (Le.cutEnv 4 rfl rfl ⟨rfl,rfl,fun _ _=>rfl,nd_cl rfl,trivial⟩ ?_ ?_) (ihz 1 (by decide) (by decide))
   ·skip
    repeat' (first|exact trivial|((conv=>whnf);first|exact trivial|refine⟨AV.le_refl _,?_⟩|refine⟨ABlk.le_refl _,?_⟩|fail)|fail)
   ·skip
    iterate 3 ((conv=>whnf);refine⟨ABlk.le_refl _,?_⟩)
    (conv=>whnf);refine⟨gnR_snoc (x:=⟨1,q,c,[],-1⟩) (congrArg (fun v=>[intV 1,intV v,intV (c:Int),.p .nils,intV (-1)]) hqv),?_⟩
    (conv=>whnf);exact trivial
  ·skip
   conv=>whnf
   repeat' (first|(refine Chk.mk ⟨rfl,Nat.zero_add _,by omega,hc',rfl⟩ ?_;conv=>whnf)|(refine Chk.mk ⟨rfl,rfl⟩ ?_;conv=>whnf)|(refine Chk.mk ⟨rfl,rfl,rfl,allLt_ok ⟨trivial,rfl⟩⟩ ?_;conv=>whnf)|(refine Chk.mk ⟨rfl,rfl,rfl,rfl,(by show (n+1+1)*56≤140737488355328;omega),(by show n+1+1≤9223372036854775807;omega)⟩ ?_;conv=>whnf)|(refine And.intro ?_ ?_<;>conv=>whnf)|fail)
   refine hlz _ _ (Le.cutEnv 4 rfl rfl ⟨rfl,rfl,fun _ _=>rfl,nd_cl rfl,trivial⟩ ?_ ?_) (ihz 2 (by decide) (by decide))
   ·skip
    repeat' (first|exact trivial|((conv=>whnf);first|exact trivial|refine⟨AV.le_refl _,?_⟩|refine⟨ABlk.le_refl _,?_⟩|fail)|fail)
   ·skip
    iterate 3 ((conv=>whnf);refine⟨ABlk.le_refl _,?_⟩)
    (conv=>whnf);refine⟨gnR_snoc (x:=⟨2,q,c,[],-1⟩) (congrArg (fun v=>[intV 2,intV v,intV (c:Int),.p .nils,intV (-1)]) hqv),?_⟩
    (conv=>whnf);exact trivial
  ·skip
   conv=>whnf
   repeat' (first|(refine Chk.mk ⟨rfl,Nat.zero_add _,by omega,hc',rfl⟩ ?_;conv=>whnf)|(refine Chk.mk ⟨rfl,rfl⟩ ?_;conv=>whnf)|(refine Chk.mk ⟨rfl,rfl,rfl,allLt_ok ⟨trivial,rfl⟩⟩ ?_;conv=>whnf)|(refine Chk.mk ⟨rfl,rfl,rfl,rfl,(by show (n+2+1)*56≤140737488355328;omega),(by show n+2+1≤9223372036854775807;omega)⟩ ?_;conv=>whnf)|(refine And.intro ?_ ?_<;>conv=>whnf)|fail)
   refine hlz _ _ (Le.cutEnv 4 rfl rfl ⟨rfl,rfl,fun _ _=>rfl,nd_cl rfl,trivial⟩ ?_ ?_) (ihz 3 (by decide) (by decide))
   ·skip
    repeat' (first|exact trivial|((conv=>whnf);first|exact trivial|refine⟨AV.le_refl _,?_⟩|refine⟨ABlk.le_refl _,?_⟩|fail)|fail)
   ·skip
    iterate 3 ((conv=>whnf);refine⟨ABlk.le_refl _,?_⟩)
    (conv=>whnf);refine⟨gnR_snoc (x:=⟨3,q,c,[],-1⟩) (congrArg (fun v=>[intV 3,intV v,intV (c:Int),.p .nils,intV (-1)]) hqv),?_⟩
    (conv=>whnf);exact trivial
  clear ihz hlz
  conv=>whnf
  refine loop_up (ι:=N8) [1,6,8,9] (fun d=>[(11,intV d.c)]) (fun d=>[(1,gB8 d.n s.ps.length),(3,gnR d.n d.G)]) (fun d=>d.c≤ns.length∧crS ns root (q:Int) (c:Int) (ns.length - d.c) d.c (d.n,d.G)=fin) (fun d=>ns.length - d.c) ⟨0,n+3,endsS n G (q:Int) (c:Int)⟩ ⟨AV.le_refl _,trivial⟩ ⟨upLe1 rfl (ABlk.le_refl _),upLe1 rfl (ABlk.le_refl _),trivial⟩ ⟨Nat.zero_le _,hfin⟩ ?_
  rintro Z hlz ⟨k',n1,G1⟩ ⟨hkl,hcs⟩ ihz
  simp only at hkl hcs
  have hn1:n1≤s.n:=by
   have:=crS_le ns root (q:Int) (c:Int) (ns.length - k') k' (n1,G1)
   rw [hcs] at this
   simp only at this
   omega
  conv=>whnf
  refine two_dec (fun h2=>?_) (fun h2=>?_)
  ·have hk'':(k':Int)<(ns.length:Int):=h2
   have h2:k'<ns.length:=by omega
   have hw2:=wzz (i:=k') (by omega)
   rw [show ns.length - k'=(ns.length - (k'+1))+1 by omega] at hcs
   simp only [crS] at hcs
   obtain⟨o,ho⟩:∃ o,own ns root k'=o:=⟨_,rfl⟩
   have st:=rt.toStd
   conv=>whnf
   refine loop_up (ι:=Int) [1,6,8,9,11] (fun u=>[(12,intV u)]) (fun _=>[]) (fun u=>(u=-1∧o=-1)∨(0≤u∧u<(ns.length:Int)∧own ns root u.toNat=o)) (fun u=>if u<0 then 0 else ns.length - u.toNat) (k':Int) ⟨AV.le_refl _,trivial⟩ trivial (.inr ⟨by omega,by omega,by simpa using ho⟩) ?_
   rintro Z2 hlz2 u hu ihz2
   conv=>whnf
   refine two_dec (fun h4=>?_) (fun h4=>?_)
   have h4:0≤u:=h4
   obtain⟨_,hul,hue⟩:=hu.resolve_left (fun e=>by omega)
   obtain⟨y,rfl⟩:∃ y:Nat,u=(y:Int):=⟨u.toNat,by omega⟩
   rw [Int.toNat_natCast] at hue
   have hy:y<ns.length:=by omega
   have hoe:=own_eq st hy
   conv=>whnf
   refine Chk.mk ⟨h4,hul,rfl⟩ ?_
   conv=>whnf
   refine two_ne (fun h5=>?_) (fun h5=>?_)
   ·have h5:(nd ns y).k≠3:=h5
    rw [if_neg h5] at hoe
    have hnext:(parF ns root y=-1∧o=-1)∨(0≤parF ns root y∧parF ns root y<(ns.length:Int)∧own ns root (parF ns root y).toNat=o):=by
     by_cases e:(y:Int)=root
     ·rw [if_pos e] at hoe
      refine .inl ⟨?_,by rw [← hue,hoe]⟩
      have:=st.par_root
      rw [← e,Int.toNat_natCast] at this
      rw [← this,e]
     ·rw [if_neg e] at hoe
      obtain⟨p,p1,p2,_,p4⟩:=rt.up hy e
      rw [p4] at hoe ⊢
      exact .inr ⟨by omega,by omega,by rw [← hue,hoe]⟩
    have hdec:(if parF ns root y<0 then 0 else ns.length - (parF ns root y).toNat)<(if (y:Int)<0 then 0 else ns.length - (y:Int).toNat):=by
     rw [if_neg (by omega:¬ (y:Int)<0),Int.toNat_natCast]
     split
     ·omega
     ·by_cases e:(y:Int)=root
      ·have:=st.par_root
       rw [← e,Int.toNat_natCast] at this
       have hpr:parF ns root y=-1:=by rw [← this,e]
       omega
      ·obtain⟨p,p1,p2,_,p4⟩:=rt.up hy e
       rw [p4];omega
    conv=>whnf
    refine Chk.mk ⟨h4,hul,rfl⟩ ?_
    conv=>whnf
    refine hlz2 _ _ (Le.env ?_ ?_) (ihz2 (parF ns root y) hdec hnext)
    ·skip
     repeat' (first|exact trivial|((conv=>whnf);first|exact trivial|refine⟨AV.le_refl _,?_⟩|refine⟨ABlk.le_refl _,?_⟩|fail)|fail)
    ·skip
     repeat' (first|exact trivial|((conv=>whnf);first|exact trivial|refine⟨AV.le_refl _,?_⟩|refine⟨ABlk.le_refl _,?_⟩|fail)|fail)
   have h5:(nd ns y).k=3:=h5
   rw [if_pos h5] at hoe
   have huo:(y:Int)=o:=by rw [← hue,hoe]
   rotate_left
   have h4:¬ 0≤u:=h4
   have huo:u=o:=by
    rcases hu with ⟨e1,e2⟩|⟨e,_⟩
    ·rw [e1,e2]
    ·omega
   all_goals
    clear ihz2 hlz2
    conv=>whnf
    refine Chk.mk ⟨by omega,hk'',rfl⟩ ?_
    conv=>whnf
    refine two_dec (fun h7=>?_) (fun h7=>?_)
    ·have h7:(nd ns k').k≥7:=h7
     conv=>whnf
     refine two_dec (fun h17=>?_) (fun h17=>?_)
     ·have h17:(nd ns k').k≤17:=h17
      have hsb:=stB_iff.2 ⟨h7,h17⟩
      conv=>whnf
      refine Chk.mk ⟨rfl,Nat.zero_add _,by omega,hc',rfl⟩ ?_
      conv=>whnf
      refine Chk.mk ⟨rfl,rfl⟩ ?_
      conv=>whnf
      refine two_eq (fun h8=>?_) (fun h8=>?_)
      ·have h8:o=(q:Int):=by rw [← huo,← hqv];exact h8
       have hb:crB ns root (q:Int) k'=true:=by rw [crB,hsb,ho,h8];simp
       rw [hb,if_pos rfl] at hcs
       conv=>whnf
       repeat' (first|(refine Chk.mk ⟨rfl,Nat.zero_add _,by omega,hc',rfl⟩ ?_;conv=>whnf)|(refine Chk.mk ⟨rfl,rfl⟩ ?_;conv=>whnf)|(refine Chk.mk ⟨rfl,rfl,rfl,allLt_ok ⟨trivial,rfl⟩⟩ ?_;conv=>whnf)|(refine Chk.mk ⟨rfl,rfl,rfl,rfl,(by show (n1+1)*56≤140737488355328;omega),(by show n1+1≤9223372036854775807;omega)⟩ ?_;conv=>whnf)|(refine And.intro ?_ ?_<;>conv=>whnf)|fail)
       refine hlz _ _ (Le.cutEnv 4 rfl rfl ⟨rfl,rfl,fun _ _=>rfl,nd_cl rfl,trivial⟩ ?_ ?_) (ihz ⟨k'+1,n1+1,addG n1 G1 ⟨4,(k':Int),(c:Int),[],-1⟩⟩ (by show _ - (k'+1)<_ - k';omega) ⟨by show k'+1≤_;omega,hcs⟩)
       ·skip
        repeat' (first|exact trivial|((conv=>whnf);first|exact trivial|refine⟨AV.le_refl _,?_⟩|refine⟨ABlk.le_refl _,?_⟩|(refine⟨AV.le_of_eq ?_,?_⟩;focus ((first|exact congrArg intV hw2|fail);done))|(refine⟨ABlk.le_of_eq ?_,?_⟩;focus ((first|exact congrArg intV hw2|fail);done))|fail)|fail)
       ·skip
        iterate 3 ((conv=>whnf);refine⟨ABlk.le_refl _,?_⟩)
        (conv=>whnf);refine⟨gnR_snoc rfl,?_⟩
        (conv=>whnf);exact trivial
      ·have h8:o≠(q:Int):=by rw [← huo,← hqv];exact h8
       have hb:crB ns root (q:Int) k'=false:=by rw [crB,hsb,ho,beq_eq_false_iff_ne.2 h8];rfl
       rw [hb,if_neg (by decide)] at hcs
       conv=>whnf
       refine hlz _ _ (Le.cutEnv 4 rfl rfl ⟨rfl,rfl,fun _ _=>rfl,fun _ _=>rfl,trivial⟩ ?_ ?_) (ihz ⟨k'+1,n1,G1⟩ (by show _ - (k'+1)<_ - k';omega) ⟨by show k'+1≤_;omega,hcs⟩)
       ·skip
        repeat' (first|exact trivial|((conv=>whnf);first|exact trivial|refine⟨AV.le_refl _,?_⟩|refine⟨ABlk.le_refl _,?_⟩|(refine⟨AV.le_of_eq ?_,?_⟩;focus ((first|exact congrArg intV hw2|fail);done))|(refine⟨ABlk.le_of_eq ?_,?_⟩;focus ((first|exact congrArg intV hw2|fail);done))|fail)|fail)
       ·skip
        repeat' (first|exact trivial|((conv=>whnf);first|exact trivial|refine⟨AV.le_refl _,?_⟩|refine⟨ABlk.le_refl _,?_⟩|fail)|fail)
     ·have h17:¬ (nd ns k').k≤17:=h17
      have hb:crB ns root (q:Int) k'=false:=by
       rw [crB,show stB (nd ns k').k=false from by simp [stB,h17]];rfl
      rw [hb,if_neg (by decide)] at hcs
      conv=>whnf
      refine hlz _ _ (Le.cutEnv 4 rfl rfl ⟨rfl,rfl,fun _ _=>rfl,fun _ _=>rfl,trivial⟩ ?_ ?_) (ihz ⟨k'+1,n1,G1⟩ (by show _ - (k'+1)<_ - k';omega) ⟨by show k'+1≤_;omega,hcs⟩)
      ·skip
       repeat' (first|exact trivial|((conv=>whnf);first|exact trivial|refine⟨AV.le_refl _,?_⟩|refine⟨ABlk.le_refl _,?_⟩|(refine⟨AV.le_of_eq ?_,?_⟩;focus ((first|exact congrArg intV hw2|fail);done))|(refine⟨ABlk.le_of_eq ?_,?_⟩;focus ((first|exact congrArg intV hw2|fail);done))|fail)|fail)
      ·skip
       repeat' (first|exact trivial|((conv=>whnf);first|exact trivial|refine⟨AV.le_refl _,?_⟩|refine⟨ABlk.le_refl _,?_⟩|fail)|fail)
    ·have h7:¬ (nd ns k').k≥7:=h7
     have hb:crB ns root (q:Int) k'=false:=by
      rw [crB,show stB (nd ns k').k=false from by simp [stB];omega];rfl
     rw [hb,if_neg (by decide)] at hcs
     conv=>whnf
     refine hlz _ _ (Le.cutEnv 4 rfl rfl ⟨rfl,rfl,fun _ _=>rfl,fun _ _=>rfl,trivial⟩ ?_ ?_) (ihz ⟨k'+1,n1,G1⟩ (by show _ - (k'+1)<_ - k';omega) ⟨by show k'+1≤_;omega,hcs⟩)
     ·skip
      repeat' (first|exact trivial|((conv=>whnf);first|exact trivial|refine⟨AV.le_refl _,?_⟩|refine⟨ABlk.le_refl _,?_⟩|(refine⟨AV.le_of_eq ?_,?_⟩;focus ((first|exact congrArg intV hw2|fail);done))|(refine⟨ABlk.le_of_eq ?_,?_⟩;focus ((first|exact congrArg intV hw2|fail);done))|fail)|fail)
     ·skip
      repeat' (first|exact trivial|((conv=>whnf);first|exact trivial|refine⟨AV.le_refl _,?_⟩|refine⟨ABlk.le_refl _,?_⟩|fail)|fail)
  ·have h2:¬ (k':Int)<(ns.length:Int):=h2
   obtain rfl:k'=ns.length:=by omega
   rw [Nat.sub_self] at hcs
   simp only [crS] at hcs
   rw [← hcs] at hcr
   conv=>whnf
   refine hle _ _ (Le.env ?_ ?_) (ih ⟨c+1,n1,G1⟩ (by show _ - (c+1)<_ - c;omega) ⟨h,by show crP ns root (s.ps.drop (c+1)) ((c+1:Nat):Int) (n1,G1)=_;rw [← hcr];rfl⟩)
   ·skip
    repeat' (first|exact trivial|((conv=>whnf);first|exact trivial|refine⟨AV.le_refl _,?_⟩|refine⟨ABlk.le_refl _,?_⟩|(refine⟨AV.le_of_eq ?_,?_⟩;focus ((first|exact congrArg intV hw1|fail);done))|(refine⟨ABlk.le_of_eq ?_,?_⟩;focus ((first|exact congrArg intV hw1|fail);done))|fail)|fail)
   ·skip
    repeat' (first|exact trivial|((conv=>whnf);first|exact trivial|refine⟨AV.le_refl _,?_⟩|refine⟨ABlk.le_refl _,?_⟩|fail)|fail)
 obtain rfl:c=s.ps.length:=by have h:¬ (c:Int)<(s.ps.length:Int):=h;omega
 rw [List.drop_length] at hcr
 simp only [crP] at hcr
 obtain⟨b1,b2⟩:=B.cr
 rw [← hcr] at b1 b2
 simp only at b1 b2
 subst b1
 clear ih hle hcr hnn hcl
 obtain⟨F,hF⟩:∃ F,s.f=F:=⟨_,rfl⟩
 have lc:LayC ns root s.n s.f (atO s.of):=⟨rt,by omega,fun j h1 h2=>(B.ofs j h1 h2).1,fun j h1 h2=>(B.ofs j h1 h2).2⟩
 have sk:SameK s.n s.f G:=fun x hx=>by rw [b2 x hx];exact⟨rfl,rfl,rfl⟩
 conv=>whnf
 refine loop_up (ι:=Nat) [1,6] (fun c=>[(13,intV c)]) (fun c=>[(3,gnR s.n (mixF (doneS ns root s c) s.f G))]) (fun c=>c≤s.ps.length) (fun c=>s.ps.length - c) 0 ⟨AV.le_refl _,trivial⟩ ⟨upLe1 rfl (ABlk.le_of_eq (congrArg (gnR s.n) (mixF_none fun y hy=>by obtain⟨_,_,_,_,h,_⟩:=hy;omega).symm)),trivial⟩ (Nat.zero_le _) ?_
 rintro Y hle c hcl ih
 conv=>whnf
 refine two_dec (fun h=>?_) (fun h=>?_)
 ·have hc':(c:Int)<(s.ps.length:Int):=h
  have h:c<s.ps.length:=by omega
  have hw1:=wzz (i:=c) (by omega)
  obtain⟨x,q,b,hx,hq,P⟩:=B.pr c h
  have hqd:s.ps.getD c 0=(q:Int):=by rw [List.getD_eq_getElem?_getD,hq];rfl
  have hqv:s.ps.getD (0+((c:Int)).toNat) 0=(q:Int):=by rw [Nat.zero_add,Int.toNat_natCast];exact hqd
  have hql:=P.ql
  have hbq:=P.bq
  have hkne:=P.kne
  have hkm:=rt.many q hql
  have hb0:0≤s.ps.getD (0+((c:Int)).toNat) 0:=by rw [hqv];omega
  have hb1:s.ps.getD (0+((c:Int)).toNat) 0<(ns.length:Int):=by rw [hqv];omega
  have hkq:(ns.getD (s.ps.getD (0+((c:Int)).toNat) 0).toNat default).kids=(nd ns q).kids:=by rw [hqv];rfl
  have hwl:IntKind.i64.wrap (((ns.getD (s.ps.getD (0+((c:Int)).toNat) 0).toNat default).kids.length:Int) - 1)=(((nd ns q).kids.length - 1:Nat):Int):=by
   rw [hkq,w64 ⟨by omega,by omega⟩];omega
  have hc0:0≤IntKind.i64.wrap (((ns.getD (s.ps.getD (0+((c:Int)).toNat) 0).toNat default).kids.length:Int) - 1):=by rw [hwl];omega
  have hc1:IntKind.i64.wrap (((ns.getD (s.ps.getD (0+((c:Int)).toNat) 0).toNat default).kids.length:Int) - 1)<((ns.getD (s.ps.getD (0+((c:Int)).toNat) 0).toNat default).kids.length:Int):=by rw [hwl,hkq];omega
  have hbv:(ns.getD (s.ps.getD (0+((c:Int)).toNat) 0).toNat default).kids.getD (IntKind.i64.wrap (((ns.getD (s.ps.getD (0+((c:Int)).toNat) 0).toNat default).kids.length:Int) - 1)).toNat 0=((b:Nat):Int):=by
   rw [hwl,hkq,Int.toNat_natCast];exact P.body
  obtain⟨g1,g2,g3⟩:=B.ends c x q b h hx P
  have sk1:=sk.mix (doneS ns root s c)
  have sk2:=sk1.mix (stS ns (atO s.of) b)
  have hex:ExOk ns s.n s.f (atO s.of) ((x:Int)+1) b:=fun j hj=>by rw [B.prof c x q b h hq P j hj];exact g2
  obtain⟨v,hv⟩:∃ v,rowG ns (atO s.of) 4000 (nd ns b).kids ((x:Int)+1)=v:=⟨_,rfl⟩
  have hf0:=P.f0
  rw [hv] at hf0
  have hset:setG (mixF (stS ns (atO s.of) b) s.f (mixF (doneS ns root s c) s.f G)) x [v] (mixF (stS ns (atO s.of) b) s.f (mixF (doneS ns root s c) s.f G) x).ra=mixF (doneS ns root s (c+1)) s.f G:=by
   rw [set_mix (F:=s.f) (by omega:x<s.n) sk2 (by rw [hf0]) (by
    by_cases e1:stS ns (atO s.of) b x
    ·rw [mixF_yes e1]
    ·rw [mixF_no e1]
     by_cases e2:doneS ns root s c x
     ·rw [mixF_yes e2]
     ·rw [mixF_no e2,b2 x (by omega),hf0];rfl),mixF_mix (U:=fun y=>doneS ns root s c y∨stS ns (atO s.of) b y) (fun y=>Iff.rfl),mixF_mix (U:=doneS ns root s (c+1)) (fun y=>doneS_succ B h hx hq P y)]
  conv=>whnf
  refine Chk.mk ⟨rfl,Nat.zero_add _,by omega,hc',rfl⟩ ?_
  conv=>whnf
  refine Chk.mk ⟨rfl,rfl⟩ ?_
  conv=>whnf
  refine Chk.mk ⟨hb0,hb1,rfl⟩ ?_
  conv=>whnf
  refine Chk.mk ⟨hc0,hc1,rfl⟩ ?_
  conv=>whnf
  refine⟨ns,root,s.n,_,s.ps.length,_,2,_,(x:Int)+1,_,rfl,rfl,lc.nl,by rw [sk1.kind];exact g2,?_⟩
  conv=>whnf
  refine⟨ns,root,s.n,_,s.ps.length,_,3,_,(x:Int)+2,_,rfl,rfl,lc.nl,by rw [sk1.kind];exact g3,?_⟩
  conv=>whnf
  repeat ((refine And.intro ?_ ?_);(focus ((conv=>whnf);first|done|exact⟨⟨hc0,hc1,rfl⟩,by conv=>whnf⟩|exact⟨⟨hb0,hb1,rfl⟩,by conv=>whnf⟩));conv=>whnf)
  refine⟨ns,root,s.n,s.f,_,s.ps.length,_,atO s.of,(x:Int)+1,_,b,(x:Int)+1,(x:Int)+2,_,rfl,rfl,hbv,lc,by omega,by omega,P.b6,sk1,hex,P.row,?_⟩
  conv=>whnf
  repeat ((refine And.intro ?_ ?_);(focus ((conv=>whnf);first|done|exact⟨⟨hc0,hc1,rfl⟩,by conv=>whnf⟩|exact⟨⟨hb0,hb1,rfl⟩,by conv=>whnf⟩));conv=>whnf)
  refine⟨ns,root,s.n,_,s.ps.length,_,1,_,(x:Int),_,rfl,rfl,lc.nl,by rw [sk2.kind];exact g1,?_⟩
  conv=>whnf
  repeat ((refine And.intro ?_ ?_);(focus ((conv=>whnf);first|done|exact⟨⟨hc0,hc1,rfl⟩,by conv=>whnf⟩|exact⟨⟨hb0,hb1,rfl⟩,by conv=>whnf⟩));conv=>whnf)
  refine⟨ns,root,s.n,_,s.ps.length,_,atO s.of,_,b,(x:Int)+1,v,_,rfl,rfl,hbv,rt,by omega,by omega,P.b6,lc.nl,lc.of sk2,hv,?_⟩
  conv=>whnf
  have hx0:(0:Int)≤(x:Int):=by omega
  have hxn:(x:Int)<(s.n:Int):=by omega
  have hea:0+((x:Int)).toNat=x:=by simp
  repeat' (first|(refine Chk.mk ⟨rfl,rfl⟩ ?_;conv=>whnf)|(refine Chk.mk ⟨rfl,Nat.zero_add _,hx0,hxn,rfl⟩ ?_;conv=>whnf)|(refine And.intro ?_ ?_<;>conv=>whnf)|fail)
  refine hle _ _ (Le.trans (Le.fz4 (r:=0) (b3':=gnR s.n (setG (mixF (stS ns (atO s.of) b) s.f (mixF (doneS ns root s c) s.f G)) x [v] (mixF (stS ns (atO s.of) b) s.f (mixF (doneS ns root s c) s.f G) x).ra)) (kidF [v]) rfl (row1 rfl) (.inr ⟨_,_,_,_,_,_,rfl,rfl,gn_fz rfl rfl fun i=>gn_upd1 hea rfl i⟩)) (Le.cutEnv 4 rfl rfl rGK_cl ?_ ?_)) (ih (c+1) (by omega) h)
  ·skip
   repeat' (first|exact trivial|((conv=>whnf);first|exact trivial|refine⟨AV.le_refl _,?_⟩|refine⟨ABlk.le_refl _,?_⟩|(refine⟨AV.le_of_eq ?_,?_⟩;focus ((first|exact congrArg intV hw1|fail);done))|(refine⟨ABlk.le_of_eq ?_,?_⟩;focus ((first|exact congrArg intV hw1|fail);done))|fail)|fail)
  ·skip
   repeat' (first|exact trivial|((conv=>whnf);first|exact trivial|refine⟨AV.le_refl _,?_⟩|refine⟨ABlk.le_refl _,?_⟩|(refine⟨AV.le_of_eq ?_,?_⟩;focus ((first|exact congrArg (gnR s.n) hset|fail);done))|(refine⟨ABlk.le_of_eq ?_,?_⟩;focus ((first|exact congrArg (gnR s.n) hset|fail);done))|fail)|fail)
 ·obtain rfl:c=s.ps.length:=by have h:¬ (c:Int)<(s.ps.length:Int):=h;omega
  conv=>whnf
  exact hr _ _ _ _ (fin8 (done_all B b2) rfl) ⟨trivial,trivial,trivial⟩ hk
end Go.Proofs.YtojjkleplnijaaaGreatDoor
namespace Go.Ru
end Go.Ru
namespace Go.Proofs.YtojjkleplnijaaaGreatDoor
open Go.AE Go.Ru
set_option maxRecDepth 100000
set_option maxHeartbeats 1000000
def eSameI:AC:=fun args K k=>∃ l,args=[intsV l,intsV l]∧List.length l<1000000∧k (.ret (.p (.bool true))) K
theorem sameI_ok:COk 30 eSameI:=by
 rintro args K k ⟨l,rfl,hl,hk⟩
 refine frame0P g0_ok 19 rfl fun Q hr=>?_
 conv=>whnf
 refine two_ne (fun h=>absurd rfl h) (fun _=>?_)
 conv=>whnf
 refine loop_up (ι:=Nat) [0,1] (fun i=>[(5,intV i)]) (fun _=>[]) (fun i=>i≤l.length) (fun i=>l.length - i) 0 ⟨AV.le_refl _,trivial⟩ trivial (Nat.zero_le _) ?_
 rintro Y hle i hi ih
 conv=>whnf
 refine two_dec (fun h=>?_) (fun h=>?_)
 ·have h':(i:Int)<(l.length:Int):=h
  have h:i<l.length:=by omega
  have hw1:=wzz (i:=i) (by omega)
  conv=>whnf
  refine⟨⟨by omega,h',rfl⟩,?_⟩
  conv=>whnf
  refine⟨⟨by omega,h',rfl⟩,?_⟩
  conv=>whnf
  refine two_ne (fun h=>absurd rfl h) (fun _=>?_)
  conv=>whnf
  refine hle _ _ (Le.env ?_ ?_) (ih (i+1) (by omega) (by omega))
  ·skip
   repeat' (first|exact trivial|((conv=>whnf);first|exact trivial|refine⟨AV.le_refl _,?_⟩|refine⟨ABlk.le_refl _,?_⟩|(refine⟨AV.le_of_eq ?_,?_⟩;focus ((first|exact congrArg intV hw1|fail);done))|(refine⟨ABlk.le_of_eq ?_,?_⟩;focus ((first|exact congrArg intV hw1|fail);done))|fail)|fail)
  ·skip
   repeat' (first|exact trivial|((conv=>whnf);first|exact trivial|refine⟨AV.le_refl _,?_⟩|refine⟨ABlk.le_refl _,?_⟩|fail)|fail)
 ·conv=>whnf
  exact hr _ _ rfl hk
end Go.Proofs.YtojjkleplnijaaaGreatDoor
namespace Go.Ru
def sortI (l:List Int):List Int:=l.mergeSort fun x y=>decide (x≤y)
theorem sortI_mem {l:List Int} {x:Int}:x∈sortI l↔x∈l:=(List.mergeSort_perm l _).mem_iff
theorem sortI_len (l:List Int):(sortI l).length=l.length:=(List.mergeSort_perm l _).length_eq
theorem sortI_sorted (l:List Int):(sortI l).Pairwise (·≤·):=by
 have:=List.pairwise_mergeSort (le:=fun x y:Int=>decide (x≤y)) (fun a b c h1 h2=>by simp at *;omega) (fun a b=>by simp;omega) l
 exact this.imp fun h=>by simpa using h
theorem compact_mem {α:Type} [Inhabited α] [DecidableEq α] {l:List α} {x:α}:x∈Lib.compact l↔x∈l:=by
 have hget:∀ j,j<l.length→l.toArray[j]! = l[j]!:=fun j hj=>by simp [hj]
 simp only [Lib.compact,Lib.compactUpTo,List.mem_map,List.mem_filter,List.mem_range]
 constructor
 ·rintro⟨j,⟨hj,_⟩,rfl⟩
  rw [getElem!_pos l.toArray j (by simpa using hj)]
  simp
 ·intro hx
  obtain⟨j,hj,rfl⟩:=List.mem_iff_getElem.1 hx
  have key:∀ j,j<l.length→∃ i,(i<l.length∧Lib.keeps l.toArray i=true)∧l.toArray[i]! = l.toArray[j]!:=by
   intro j
   induction j with
   | zero=>intro h;exact⟨0,⟨h,by simp [Lib.keeps]⟩,rfl⟩
   | succ j ih =>
    intro h
    by_cases e:Lib.keeps l.toArray (j+1)=true
    ·exact⟨j+1,⟨h,e⟩,rfl⟩
    ·obtain⟨i,h1,h2⟩:=ih (by omega)
     refine⟨i,h1,h2.trans ?_⟩
     simp only [Lib.keeps,Nat.add_one_ne_zero,false_or,Nat.add_sub_cancel,decide_eq_true_eq,Decidable.not_not] at e
     exact e.symm
  obtain⟨i,h1,h2⟩:=key j hj
  exact⟨i,h1,by rw [h2,getElem!_pos l.toArray j (by simpa using hj)];simp⟩
theorem compact_len {α:Type} [Inhabited α] [DecidableEq α] (l:List α):(Lib.compact l).length≤l.length:=by
 simp only [Lib.compact,Lib.compactUpTo,List.length_map]
 exact Nat.le_trans (List.length_filter_le _ _) (by simp)
theorem pairwise_filter_range {R:Nat→Nat→Prop} {p:Nat→Bool} {n:Nat} (h:∀ i j,i<j→j<n→p j=true→R i j):((List.range n).filter p).Pairwise R:=by
 rw [List.pairwise_filter]
 refine List.Pairwise.imp_of_mem (R:=fun i j=>i<j) (fun {i j} hi hj hlt=>?_) List.pairwise_lt_range
 intro _ hpj
 exact h i j hlt (List.mem_range.1 hj) hpj
theorem compact_rise {α:Type} [Inhabited α] [DecidableEq α] {R:α→α→Prop} {l:List α} (htr:∀ a b c,R a b→R b c→R a c) (hs:l.Pairwise fun a b=>R a b∨a=b):(Lib.compact l).Pairwise R:=by
 simp only [Lib.compact,Lib.compactUpTo]
 rw [List.pairwise_map]
 refine pairwise_filter_range fun i j hlt hj hk=>?_
 have hj0:j<l.length:=hj
 have hget:∀ k,k<l.length→l.toArray[k]! = l[k]!:=fun k hk=>by simp [hk]
 simp only [Lib.keeps,decide_eq_true_eq] at hk
 have hk:l.toArray[j]!≠l.toArray[j - 1]!:=hk.resolve_left (by omega)
 have le:∀ a b,a<b→b<l.length→R l.toArray[a]! l.toArray[b]!∨l.toArray[a]! = l.toArray[b]!:=fun a b h1 h2=>by
  have:=List.pairwise_iff_getElem.1 hs a b (by omega) h2 h1
  rw [getElem!_pos l.toArray a (by simp;omega),getElem!_pos l.toArray b (by simpa using h2)]
  simpa using this
 have h1:R l.toArray[j - 1]! l.toArray[j]!:=(le (j - 1) j (by omega) hj0).resolve_right fun e=>hk e.symm
 by_cases e:i=j - 1
 ·rw [e];exact h1
 ·rcases le i (j - 1) (by omega) (by omega) with h|h
  ·exact htr _ _ _ h h1
  ·rw [h];exact h1
def setI (l:List Int):List Int:=Lib.compact (sortI l)
theorem setI_mem {l:List Int} {x:Int}:x∈setI l↔x∈l:=by rw [setI,compact_mem,sortI_mem]
theorem setI_rise (l:List Int):(setI l).Pairwise (·<·) :=
 compact_rise (fun _ _ _=>Int.lt_trans) ((sortI_sorted l).imp fun {a b} h=>by omega)
theorem setI_len (l:List Int):(setI l).length≤l.length:=by rw [← sortI_len l];exact compact_len _
end Go.Ru
namespace Go.Ru
def nxtS (g:GN):List Int:=g.nx++(if g.ra=-1 then [] else [g.ra])
def afterT (s:BSt) (i:Int):List Int:=if 0≤i∧i<s.n then setI (nxtS (s.f i.toNat)) else []
theorem nxtS_mem {g:GN} {y:Int}:y∈nxtS g↔succG g y:=by
 unfold nxtS succG
 by_cases h:g.ra=-1<;>simp [h]
theorem after_in {s:BSt} {x:Nat} (hx:x<s.n):afterT s (x:Int)=setI (nxtS (s.f x)):=by
 simp only [afterT];rw [if_pos ⟨by omega,by omega⟩,Int.toNat_natCast]
theorem after_mem {s:BSt} {x:Nat} (hx:x<s.n) {y:Int}:y∈afterT s (x:Int)↔succG (s.f x) y:=by
 rw [after_in hx,setI_mem,nxtS_mem]
section
variable {ns:List Nd} {root:Int} {s:BSt} {e:Nat→Nat} (h:BInv ns root s e)
include h
theorem BInv.succ {x:Nat} (hx:x<s.n):∃ c,c<s.ps.length∧(s.f x).pr=(c:Int)∧∀ y,succG (s.f x) y→ToN s c y:=by
 rcases h.back x hx with ⟨c,hc,hxc⟩|⟨i,h1,h2,h3⟩
 ·obtain⟨q,a1,a2,a3,a4,⟨b,a5,a6⟩,a7,a8⟩:=h.pr c hc
  refine⟨c,hc,?_⟩
  rcases hxc with rfl|rfl|rfl
  ·rw [a5]
   refine⟨rfl,fun y hy=>?_⟩
   rcases hy with hy|⟨hy,_⟩
   ·simp at hy;subst hy;exact a6
   ·exact absurd rfl hy
  ·rw [a7]
   refine⟨rfl,fun y hy=>?_⟩
   rcases hy with hy|⟨hy,_⟩
   ·simp at hy
   ·exact absurd rfl hy
  ·rw [a8]
   refine⟨rfl,fun y hy=>?_⟩
   rcases hy with hy|⟨hy,_⟩
   ·simp at hy
   ·exact absurd rfl hy
 ·obtain⟨x',c,b1,b2,b3,b4,b5⟩:=h.st i h1 h2
  rw [h3] at b1
  injection b1 with b1
  subst b1
  refine⟨c,b3,b5.pr,fun y hy=>?_⟩
  rcases hy with hy|⟨hy,rfl⟩
  ·exact b5.nx y hy
  ·exact b5.ra.resolve_left hy
theorem BInv.short {x:Nat} (hx:x<s.n):(s.f x).nx.length<1000:=by
 rcases h.back x hx with ⟨c,hc,hxc⟩|⟨i,h1,h2,h3⟩
 ·obtain⟨q,a1,a2,a3,a4,⟨b,a5,a6⟩,a7,a8⟩:=h.pr c hc
  rcases hxc with rfl|rfl|rfl
  ·rw [a5];simp
  ·rw [a7];simp
  ·rw [a8];simp
 ·obtain⟨x',c,b1,b2,b3,b4,b5⟩:=h.st i h1 h2
  rw [h3] at b1
  injection b1 with b1
  subst b1
  have:=b5.lt3
  omega
end
end Go.Ru
namespace Go.Ru
inductive Path (s:BSt) (x:Int):Int→Prop where
 | refl:Path s x x
 | step {y z:Int} (h:Path s x y) (h0:0≤y) (h1:y<(s.n:Int)) (hs:succG (s.f y.toNat) z):Path s x z
theorem Path.trans {s:BSt} {x y z:Int} (h:Path s x y) (h':Path s y z):Path s x z:=by
 induction h' with
 | refl=>exact h
 | step _ h0 h1 hs ih=>exact .step ih h0 h1 hs
structure ReachL (s:BSt) (i:Int) (l:List Int):Prop where
 no:¬ (0≤i∧i<(s.n:Int))→l=[]
 mem:0≤i→i<(s.n:Int)→∀ y,y∈l↔Path s i y
 rise:l.Pairwise (·<·)
 len:l.length≤s.n
def Clos (s:BSt):Prop:=∀ x,x<s.n→∀ y,succG (s.f x) y→0≤y∧y<(s.n:Int)
theorem Path.range {s:BSt} (hc:Clos s) {x y:Int} (h:Path s x y) (h0:0≤x) (h1:x<(s.n:Int)):0≤y∧y<(s.n:Int):=by
 induction h with
 | refl=>exact⟨h0,h1⟩
 | step _ g0 g1 hs _=>exact hc _ (by omega) _ hs
structure WSt where
 seen:Nat→Bool
 left:List Int
 out:List Int
 ver:Nat
structure WInv (s:BSt) (from_:Int) (c:WSt):Prop where
 sn:∀ x:Nat,x<s.n→(c.seen x=true↔(x:Int)∈c.out)
 st:from_∈c.out∨from_∈c.left
 cl:∀ x∈c.out,∀ y,succG (s.f x.toNat) y→y∈c.out∨y∈c.left
 ok:∀ x,x∈c.out∨x∈c.left→Path s from_ x
 nd:c.out.Nodup
 ol:c.out.length≤s.n
 ll:c.left.length≤1+1001*c.out.length
theorem rise_len {n:Int}:∀ (l:List Int) (lo:Int),l.Pairwise (·<·)→(∀ x∈l,lo≤x∧x<n)→lo≤n→(l.length:Int)≤n - lo:=by
 intro l
 induction l with
 | nil=>intro lo _ _ h;simp;omega
 | cons a l ih =>
  intro lo hp hr _
  obtain⟨h1,h2⟩:=List.pairwise_cons.1 hp
  have ha:=hr a (by simp)
  have:=ih (a+1) h2 (fun x hx=>⟨by have:=h1 x hx;omega,(hr x (by simp [hx])).2⟩) (by omega)
  simp only [List.length_cons]
  omega
theorem sortI_strict {l:List Int} (h:l.Nodup):(sortI l).Pairwise (·<·) :=
 ((sortI_sorted l).and ((List.mergeSort_perm l _).nodup_iff.2 h)).imp fun {a b} h=>by have:=h.1;have:=h.2;omega
theorem nodup_le {l:List Int} {n:Nat} (h:l.Nodup) (hr:∀ x∈l,0≤x∧x<(n:Int)):l.length≤n:=by
 have:=rise_len (n:=(n:Int)) (sortI l) 0 (sortI_strict h) (fun x hx=>hr x (sortI_mem.1 hx)) (by omega)
 rw [sortI_len] at this
 omega
theorem winv0 (s:BSt) {from_:Int}:WInv s from_ ⟨fun _=>false,[from_],[],0⟩ :=
 ⟨fun x _=>by simp,.inr (by simp),fun x hx=>by simp at hx,fun x hx=>by
  rcases hx with hx|hx
  ·simp at hx
  ·simp at hx;subst hx;exact .refl,List.nodup_nil,Nat.zero_le _,by simp⟩
theorem WInv.skip {s:BSt} {f:Int} {c:WSt} {l:List Int} {x:Int} (h:WInv s f c) (hl:c.left=l++[x]) (hx:x∈c.out) (v:Nat):WInv s f ⟨c.seen,l,c.out,v⟩:=by
 refine⟨h.sn,?_,fun y hy z hz=>?_,fun y hy=>h.ok y (hy.imp id fun h=>by rw [hl];simp [h]),h.nd,h.ol,by have:=h.ll;rw [hl] at this;simp at this ⊢;omega⟩
 ·rcases h.st with h1|h1
  ·exact .inl h1
  ·rw [hl] at h1
   rcases List.mem_append.1 h1 with h1|h1
   ·exact .inr h1
   ·simp at h1;subst h1;exact .inl hx
 ·rcases h.cl y hy z hz with h1|h1
  ·exact .inl h1
  ·rw [hl] at h1
   rcases List.mem_append.1 h1 with h1|h1
   ·exact .inr h1
   ·simp at h1;subst h1;exact .inl hx
theorem WInv.take {s:BSt} {f:Int} {c:WSt} {l:List Int} {x:Nat} (h:WInv s f c) (hc:Clos s) (f0:0≤f) (f1:f<(s.n:Int)) (hl:c.left=l++[(x:Int)]) (hx:(x:Int) ∉ c.out) (hxn:x<s.n) (hsh:(afterT s (x:Int)).length≤1001) (v:Nat) :
  WInv s f ⟨fun j=>if j=x then true else c.seen j,l++afterT s (x:Int),c.out++[(x:Int)],v⟩∧c.out.length<s.n:=by
 have hP:Path s f (x:Int):=h.ok _ (.inr (by rw [hl];simp))
 have hrange:∀ y,y∈c.out++[(x:Int)]→0≤y∧y<(s.n:Int):=fun y hy=>by
  rcases List.mem_append.1 hy with hy|hy
  ·exact (h.ok y (.inl hy)).range hc f0 f1
  ·simp at hy;subst hy;omega
 have hnd:(c.out++[(x:Int)]).Nodup:=by
  rw [List.nodup_append]
  exact⟨h.nd,by simp,fun a ha b hb e=>by simp at hb;subst hb;subst e;exact hx ha⟩
 have hol:=nodup_le hnd hrange
 have hol':c.out.length+1≤s.n:=by simpa using hol
 refine⟨⟨fun y hy=>?_,?_,fun y hy z hz=>?_,fun y hy=>?_,hnd,hol,?_⟩,by omega⟩
 ·by_cases e:y=x
  ·subst e;simp
  ·simp only [e,if_false]
   rw [h.sn y hy,List.mem_append]
   constructor
   ·exact .inl
   ·rintro (h|h)
    ·exact h
    ·simp at h;omega
 ·rcases h.st with h1|h1
  ·exact .inl (by simp [h1])
  ·rw [hl] at h1
   rcases List.mem_append.1 h1 with h1|h1
   ·exact .inr (by simp [h1])
   ·simp at h1;subst h1;exact .inl (by simp)
 ·rcases List.mem_append.1 hy with hy|hy
  ·rcases h.cl y hy z hz with h1|h1
   ·exact .inl (by simp [h1])
   ·rw [hl] at h1
    rcases List.mem_append.1 h1 with h1|h1
    ·exact .inr (by simp [h1])
    ·simp at h1;subst h1;exact .inl (by simp)
  ·simp at hy;subst hy
   exact .inr (List.mem_append_right _ ((after_mem hxn).2 (by simpa using hz)))
 ·rcases hy with hy|hy
  ·rcases List.mem_append.1 hy with hy|hy
   ·exact h.ok y (.inl hy)
   ·simp at hy;subst hy;exact hP
  ·rcases List.mem_append.1 hy with hy|hy
   ·exact h.ok y (.inr (by rw [hl];simp [hy]))
   ·exact .step hP (by omega) (by omega) (by simpa using (after_mem hxn).1 hy)
 ·have:=h.ll
  rw [hl] at this
  simp only [List.length_append,List.length_cons,List.length_nil] at this ⊢
  omega
theorem WInv.done {s:BSt} {f:Int} {c:WSt} (h:WInv s f c) (hc:Clos s) (f0:0≤f) (f1:f<(s.n:Int)) (hl:c.left=[]):ReachL s f (sortI c.out):=by
 have hst:f∈c.out:=h.st.resolve_right (by rw [hl];simp)
 refine⟨fun hn=>absurd ⟨f0,f1⟩ hn,fun _ _ y=>?_,?_,by rw [sortI_len];exact h.ol⟩
 ·rw [sortI_mem]
  constructor
  ·exact fun hy=>h.ok y (.inl hy)
  ·intro hp
   induction hp with
   | refl=>exact hst
   | step _ _ _ hs ih=>exact (h.cl _ ih _ hs).resolve_right (by rw [hl];simp)
 ·exact sortI_strict h.nd
structure EndL (s:BSt):Prop where
 clos:Clos s
 short:∀ x,x<s.n→(s.f x).nx.length<1000
 pr:∀ x,x<s.n→0≤(s.f x).pr∧(s.f x).pr<(s.ps.length:Int)
 same:∀ x:Nat,x<s.n→∀ y,Path s (x:Int) y→0≤y∧y<(s.n:Int)∧(s.f y.toNat).pr=(s.f x).pr
 ends:∀ x:Nat,x<s.n→Path s (x:Int) (endT s 2 (s.f x).pr)∨Path s (x:Int) (endT s 3 (s.f x).pr)
theorem end_law {ns:List Nd} {root:Int} (rt:RightT ns root):EndL (buildS ns root):=by
 obtain⟨e,h,hout⟩:=build_ok rt
 generalize buildS ns root=s at h hout
 have hclos:Clos s:=fun x hx y hy=>by
  obtain⟨c,_,_,h3⟩:=h.succ hx
  obtain⟨a1,a2,_,_⟩:=h3 y hy
  exact⟨a1,a2⟩
 have hsame:∀ x:Nat,x<s.n→∀ y,Path s (x:Int) y→0≤y∧y<(s.n:Int)∧(s.f y.toNat).pr=(s.f x).pr:=fun x hx y hp=>by
  induction hp with
  | refl=>exact⟨by omega,by omega,by simp⟩
  | @step y z _ g0 g1 hs ih =>
   obtain⟨i0,i1,i2⟩:=ih
   obtain⟨c,_,h2,h3⟩:=h.succ (x:=y.toNat) (by omega)
   obtain⟨a1,a2,a3,_⟩:=h3 _ hs
   exact⟨a1,a2,by rw [a3,← h2,i2]⟩
 refine⟨hclos,fun x hx=>h.short hx,fun x hx=>?_,hsame,fun x hx=>?_⟩
 ·obtain⟨c,h1,h2,_⟩:=h.succ hx
  omega
 ·have key:=h.way (fun y=>∀ z:Nat,y=(z:Int)→z<s.n→Path s (z:Int) (endT s 2 (s.f z).pr)∨Path s (z:Int) (endT s 3 (s.f z).pr)) (fun c hc=>?_) (fun z hz hy=>?_) x hx
  ·exact key x rfl hx
  ·obtain⟨h1,h2,h3⟩:=h.end1 hc
   obtain⟨q,a1,a2,a3,a4,⟨b,a5,a6⟩,a7,a8⟩:=h.pr c hc
   refine⟨fun z e hz=>?_,fun z e hz=>?_⟩
   ·obtain rfl:z=_:=by exact_mod_cast e.symm
    rw [a7];simp only;rw [h2];exact .inl .refl
   ·obtain rfl:z=_:=by exact_mod_cast e.symm
    rw [a8];simp only;rw [h3];exact .inr .refl
  ·obtain⟨y,hs,hd⟩:=hy
   intro z' e hz'
   obtain rfl:z'=z:=by omega
   have hp:Path s (z':Int) y:=.step .refl (by omega) (by omega) (by simpa using hs)
   obtain⟨y0,y1,y2⟩:=hsame z' hz y hp
   obtain⟨y',rfl⟩:∃ y':Nat,y=(y':Int):=⟨y.toNat,by omega⟩
   rw [Int.toNat_natCast] at y2
   rcases hd y' rfl (by omega) with h1|h1
   ·rw [y2] at h1;exact .inl (hp.trans h1)
   ·rw [y2] at h1;exact .inr (hp.trans h1)
end Go.Ru
namespace Go.Ru
def filI (p:Nat→Bool):Nat→List Int
 | 0=>[]
 | n+1=>filI p n++(match p n with|true=>[(n:Int)]|false=>[])
theorem filI_mem {p:Nat→Bool}:∀ {n:Nat} {y:Int},y∈filI p n↔∃ x:Nat,y=(x:Int)∧x<n∧p x=true:=by
 intro n
 induction n with
 | zero=>intro y;simp [filI]
 | succ n ih =>
  intro y
  simp only [filI,List.mem_append,ih]
  constructor
  ·rintro (⟨x,h1,h2,h3⟩|h)
   ·exact⟨x,h1,by omega,h3⟩
   ·cases hp:p n with
    | true=>rw [hp] at h;simp at h;exact⟨n,h,by omega,hp⟩
    | false=>rw [hp] at h;simp at h
  ·rintro⟨x,h1,h2,h3⟩
   by_cases e:x<n
   ·exact .inl ⟨x,h1,e,h3⟩
   ·obtain rfl:x=n:=by omega
    rw [h3];exact .inr (by simp [h1])
theorem filI_rise {p:Nat→Bool}:∀ {n:Nat},(filI p n).Pairwise (·<·):=by
 intro n
 induction n with
 | zero=>exact List.Pairwise.nil
 | succ n ih =>
  simp only [filI]
  refine List.pairwise_append.2 ⟨ih,by split<;>simp,fun a ha b hb=>?_⟩
  obtain⟨x,h1,h2,_⟩:=filI_mem.1 ha
  split at hb
  ·simp at hb;omega
  ·simp at hb
theorem filI_len {p:Nat→Bool}:∀ {n:Nat},(filI p n).length≤n:=by
 intro n
 induction n with
 | zero=>exact Nat.le_refl _
 | succ n ih =>
  simp only [filI,List.length_append]
  split<;>simp<;>omega
theorem riseI_uniq:∀ {a b:List Int},a.Pairwise (·<·)→b.Pairwise (·<·)→(∀ x,x∈a↔x∈b)→a=b:=by
 intro a
 induction a with
 | nil =>
  intro b _ _ h
  cases b with
  | nil=>rfl
  | cons y b=>exact absurd ((h y).2 (List.mem_cons_self ..)) (by simp)
 | cons x a ih =>
  intro b ha hb h
  cases b with
  | nil=>exact absurd ((h x).1 (List.mem_cons_self ..)) (by simp)
  | cons y b =>
   obtain⟨a1,a2⟩:=List.pairwise_cons.1 ha
   obtain⟨b1,b2⟩:=List.pairwise_cons.1 hb
   have e:x=y:=by
    rcases List.mem_cons.1 ((h x).1 (List.mem_cons_self ..)) with e|hx
    ·exact e
    rcases List.mem_cons.1 ((h y).2 (List.mem_cons_self ..)) with e|hy
    ·exact e.symm
    have:=b1 x hx;have:=a1 y hy;omega
   subst e
   congr 1
   refine ih a2 b2 fun z=>⟨fun hz=>?_,fun hz=>?_⟩
   ·rcases List.mem_cons.1 ((h z).1 (List.mem_cons_of_mem _ hz)) with e|hz'
    ·subst e;have:=a1 z hz;omega
    ·exact hz'
   ·rcases List.mem_cons.1 ((h z).2 (List.mem_cons_of_mem _ hz)) with e|hz'
    ·subst e;have:=b1 z hz;omega
    ·exact hz'
theorem reach_uniq {s:BSt} {i:Int} {l l':List Int} (h:ReachL s i l) (h':ReachL s i l'):l=l':=by
 by_cases hi:0≤i∧i<(s.n:Int)
 ·exact riseI_uniq h.rise h'.rise fun y=>(h.mem hi.1 hi.2 y).trans (h'.mem hi.1 hi.2 y).symm
 ·rw [h.no hi,h'.no hi]
def succB (g:GN) (y:Nat):Bool:=g.ra==(y:Int) || g.nx.any (·==(y:Int))
theorem succB_iff {g:GN} {y:Nat}:succB g y=true↔succG g (y:Int):=by
 unfold succB succG
 rw [Bool.or_eq_true,beq_iff_eq,List.any_eq_true]
 constructor
 ·rintro (h|⟨x,hx,e⟩)
  ·exact .inr ⟨by omega,h.symm⟩
  ·rw [beq_iff_eq] at e;exact .inl (e▸hx)
 ·rintro (h|⟨_,h⟩)
  ·exact .inr ⟨_,h,by simp⟩
  ·exact .inl h.symm
theorem after8 {s:BSt} (hc:Clos s) {x:Nat} (hx:x<s.n):filI (succB (s.f x)) s.n=afterT s (x:Int):=by
 refine riseI_uniq filI_rise ?_ fun y=>?_
 ·rw [after_in hx];exact setI_rise _
 ·rw [after_mem hx,filI_mem]
  constructor
  ·rintro⟨z,rfl,h1,h2⟩;exact succB_iff.1 h2
  ·intro h
   obtain⟨h1,h2⟩:=hc x hx y h
   obtain⟨z,rfl⟩:∃ z:Nat,y=(z:Int):=⟨y.toNat,by omega⟩
   exact⟨z,rfl,by omega,succB_iff.2 h⟩
def cntF (f:Nat→Bool):Nat→Nat
 | 0=>0
 | n+1=>cntF f n+(match f n with|true=>0|false=>1)
theorem cntF_le {f g:Nat→Bool} (h:∀ x,f x=true→g x=true):∀ n,cntF g n≤cntF f n:=by
 intro n
 induction n with
 | zero=>exact Nat.le_refl _
 | succ n ih =>
  simp only [cntF]
  cases hf:f n with
  | true=>rw [h n hf];simp only;omega
  | false=>cases g n<;>simp only<;>omega
def setB (f:Nat→Bool) (x y:Nat):Bool:=if y=x then true else f y
theorem cntF_set {f:Nat→Bool} {x:Nat} (hx:f x=false):∀ {n},x<n→cntF (setB f x) n+1≤cntF f n:=by
 intro n
 induction n with
 | zero=>intro h;omega
 | succ n ih =>
  intro h
  simp only [cntF]
  by_cases e:x=n
  ·subst e
   have:=cntF_le (f:=f) (g:=setB f x) (fun y hy=>by unfold setB;split<;>simp [hy]) x
   rw [hx,show setB f x x=true by simp [setB]]
   simp only;omega
  ·have:=ih (by omega)
   rw [show setB f x n=f n by simp [setB,show n≠x by omega]]
   omega
structure RInv (s:BSt) (x:Nat) (f:Nat→Bool):Prop where
 st:f x=true
 ok:∀ y,f y=true→Path s (x:Int) (y:Int)∧y<s.n
theorem RInv.set {s:BSt} {x:Nat} {f:Nat→Bool} (h:RInv s x f) {i z:Nat} (hi:f i=true) (hc:Clos s) (hz:succG (s.f i) (z:Int)):RInv s x (setB f z):=by
 obtain⟨h1,h2⟩:=h.ok i hi
 refine⟨?_,fun y hy=>?_⟩
 ·unfold setB;split
  ·rfl
  ·exact h.st
 ·unfold setB at hy
  split at hy
  ·rename_i e
   subst e
   have:=hc i h2 _ hz
   exact⟨.step h1 (by omega) (by omega) (by simpa using hz),by omega⟩
  ·exact h.ok y hy
theorem RInv.done {s:BSt} {x:Nat} {f:Nat→Bool} (h:RInv s x f) (hc:Clos s) (hcl:∀ i,i<s.n→f i=true→∀ z:Nat,succG (s.f i) (z:Int)→f z=true):ReachL s (x:Int) (filI f s.n):=by
 have hx:=(h.ok x h.st).2
 refine⟨fun hn=>absurd ⟨by omega,by omega⟩ hn,fun _ _ y=>?_,filI_rise,filI_len⟩
 rw [filI_mem]
 constructor
 ·rintro⟨z,rfl,h1,h2⟩;exact (h.ok z h2).1
 ·intro hp
  have key:∃ z:Nat,y=(z:Int)∧z<s.n∧f z=true:=by
   induction hp with
   | refl=>exact⟨x,rfl,hx,h.st⟩
   | @step y z _ g0 g1 hs ih =>
    obtain⟨y',rfl,h1,h2⟩:=ih
    rw [Int.toNat_natCast] at hs
    obtain⟨r0,r1⟩:=hc y' h1 z hs
    obtain⟨z',rfl⟩:∃ z':Nat,z=(z':Int):=⟨z.toNat,by omega⟩
    exact⟨z',rfl,by omega,hcl y' h1 h2 z' hs⟩
  exact key
end Go.Ru
namespace Go.Proofs
open Go.Shelf
def Tryz.lays189_ren:Go.Shelf.Ren:=⟨fun|189=>79|125=>116|257=>125|128=>163|129=>164|294=>167|295=>168|296=>169|297=>170|298=>171|299=>172|216=>173|300=>174|301=>175|328=>207|329=>202|330=>203|331=>208|332=>209|215=>210|343=>225|n=>n,fun|28=>40|3=>3|46=>115|0=>0|51=>154|53=>156|4=>4|183=>148|182=>147|131=>104|5=>5|9=>9|218=>176|222=>180|228=>193|229=>194|n=>n,fun|n=>n⟩
theorem Tryz.lays189:Go.Proofs.Lays.n189 Tryz.prog Tryz.lays189_ren:={
 mixed:=by kernel_rfl
 f125:=Tryz.func116.trans (congrArg some (by kernel_rfl))
 f128:=Tryz.func163.trans (congrArg some (by kernel_rfl))
 f129:=Tryz.func164.trans (congrArg some (by kernel_rfl))
 f189:=Tryz.func79.trans (congrArg some (by kernel_rfl))
 f215:=Tryz.func210.trans (congrArg some (by kernel_rfl))
 f216:=Tryz.func173.trans (congrArg some (by kernel_rfl))
 f257:=Tryz.func125.trans (congrArg some (by kernel_rfl))
 f294:=Tryz.func167.trans (congrArg some (by kernel_rfl))
 f295:=Tryz.func168.trans (congrArg some (by kernel_rfl))
 f296:=Tryz.func169.trans (congrArg some (by kernel_rfl))
 f297:=Tryz.func170.trans (congrArg some (by kernel_rfl))
 f298:=Tryz.func171.trans (congrArg some (by kernel_rfl))
 f299:=Tryz.func172.trans (congrArg some (by kernel_rfl))
 f300:=Tryz.func174.trans (congrArg some (by kernel_rfl))
 f301:=Tryz.func175.trans (congrArg some (by kernel_rfl))
 f328:=Tryz.func207.trans (congrArg some (by kernel_rfl))
 f329:=Tryz.func202.trans (congrArg some (by kernel_rfl))
 f330:=Tryz.func203.trans (congrArg some (by kernel_rfl))
 f331:=Tryz.func208.trans (congrArg some (by kernel_rfl))
 f332:=Tryz.func209.trans (congrArg some (by kernel_rfl))
 f343:=Tryz.func225.trans (congrArg some (by kernel_rfl))
 t0:=Tryz.underlying0
 a0:=Tryz.isAgg0
 z0:=Tryz.sizeOf0
 v0:=Tryz.zeroValue0
 t3:=Tryz.underlying3
 a3:=Tryz.isAgg3
 z3:=Tryz.sizeOf3
 v3:=Tryz.zeroValue3
 t4:=Tryz.underlying4
 a4:=Tryz.isAgg4
 z4:=Tryz.sizeOf4
 v4:=Tryz.zeroValue4
 t5:=Tryz.underlying5
 a5:=Tryz.isAgg5
 z5:=Tryz.sizeOf5
 v5:=Tryz.zeroValue5
 t9:=Tryz.underlying9
 a9:=Tryz.isAgg9
 z9:=Tryz.sizeOf9
 v9:=Tryz.zeroValue9
 t28:=Tryz.underlying40
 a28:=Tryz.isAgg40
 z28:=Tryz.sizeOf40
 v28:=Tryz.zeroValue40
 t46:=Tryz.underlying115
 a46:=Tryz.isAgg115
 z46:=Tryz.sizeOf115
 v46:=Tryz.zeroValue115
 t51:=Tryz.underlying154
 a51:=Tryz.isAgg154
 z51:=Tryz.sizeOf154
 v51:=Tryz.zeroValue154
 t53:=Tryz.underlying156
 a53:=Tryz.isAgg156
 z53:=Tryz.sizeOf156
 v53:=Tryz.zeroValue156
 t131:=Tryz.underlying104
 a131:=Tryz.isAgg104
 z131:=Tryz.sizeOf104
 v131:=Tryz.zeroValue104
 t182:=Tryz.underlying147
 a182:=Tryz.isAgg147
 z182:=Tryz.sizeOf147
 v182:=Tryz.zeroValue147
 t183:=Tryz.underlying148
 a183:=Tryz.isAgg148
 z183:=Tryz.sizeOf148
 v183:=Tryz.zeroValue148
 t218:=Tryz.underlying176
 a218:=Tryz.isAgg176
 z218:=Tryz.sizeOf176
 v218:=Tryz.zeroValue176
 t222:=Tryz.underlying180
 a222:=Tryz.isAgg180
 z222:=Tryz.sizeOf180
 v222:=Tryz.zeroValue180
 t228:=Tryz.underlying193
 a228:=Tryz.isAgg193
 z228:=Tryz.sizeOf193
 v228:=Tryz.zeroValue193
 t229:=Tryz.underlying194
 a229:=Tryz.isAgg194
 z229:=Tryz.sizeOf194
 v229:=Tryz.zeroValue194 }
open Go.Sort Go.RowKit in
theorem Tryz.slices_Sort_int (blk off cap:Nat) (zs:List Int) (w:World) (hH:Holds (Value.int .i64) w blk off zs.toArray) (hblk:blk<w.heap.size) (hsz:zs.length<4611686018427387904) :
  Calls Tryz.prog 79 #[.slice (some ⟨blk,off,none⟩) zs.length cap] w fun e w' =>
   e=.returned (.tuple #[])∧∃ n os,w'=grow (putRow (Value.int .i64) (Sort.ahead w n) blk off (zs.mergeSort fun x y=>decide (x≤y)).toArray) os:=Any.slices_Sort_int Tryz.lays189 blk off cap zs w hH hblk hsz
def Tryz.laysNm215_ren:Go.Shelf.Ren:=⟨fun|15=>78|n=>n,fun|22=>40|3=>3|4=>4|n=>n,fun|n=>n⟩
theorem Tryz.laysNm215:Go.Proofs.Lays2.n15 Tryz.prog Tryz.laysNm215_ren:={
 mixed:=by kernel_rfl
 f15:=Tryz.func78.trans (congrArg some (by kernel_rfl))
 t3:=Tryz.underlying3
 a3:=Tryz.isAgg3
 z3:=Tryz.sizeOf3
 v3:=Tryz.zeroValue3
 t4:=Tryz.underlying4
 a4:=Tryz.isAgg4
 z4:=Tryz.sizeOf4
 v4:=Tryz.zeroValue4
 t22:=Tryz.underlying40
 a22:=Tryz.isAgg40
 z22:=Tryz.sizeOf40
 v22:=Tryz.zeroValue40
 i3:=by kernel_rfl }
open Go.RowKit Go.Lib in
theorem Tryz.slices_Clone_int (b off n c:Nat) (zs:List Int) (w:World) (hz:n≤zs.length) (hbig:n*8≤140737488355328) (hc:∀ j,j<zs.length→w.cell? ⟨b,off+j,none⟩=some (.int .i64 (zs.getD j 0))) :
  Calls Tryz.prog 78 #[.slice (some ⟨b,off,none⟩) n c] w fun e w'=>∃ v',e=.returned v'∧w'.ownsRow w.heap.size 3 1 v' n ((zs.take n).map (Value.int .i64))∧v'≠.slice none 0 0∧Below w.heap.size w w':=Any.slices_Clone_int Tryz.laysNm215 b off n c zs w hz hbig hc
open Go.RowKit Go.Lib in
theorem Tryz.slices_Clone_int_nil (n c:Nat) (w:World) :
  Calls Tryz.prog 78 #[.slice none n c] w fun e w'=>e=.returned (.slice none 0 0)∧w'=w:=Any.slices_Clone_int_nil Tryz.laysNm215 n c w
def Tryz.laysNm220_ren:Go.Shelf.Ren:=⟨fun|20=>80|n=>n,fun|22=>40|3=>3|4=>4|0=>0|n=>n,fun|n=>n⟩
theorem Tryz.laysNm220:Go.Proofs.Lays2.n20 Tryz.prog Tryz.laysNm220_ren:={
 mixed:=by kernel_rfl
 f20:=Tryz.func80.trans (congrArg some (by kernel_rfl))
 t0:=Tryz.underlying0
 a0:=Tryz.isAgg0
 z0:=Tryz.sizeOf0
 v0:=Tryz.zeroValue0
 t3:=Tryz.underlying3
 a3:=Tryz.isAgg3
 z3:=Tryz.sizeOf3
 v3:=Tryz.zeroValue3
 t4:=Tryz.underlying4
 a4:=Tryz.isAgg4
 z4:=Tryz.sizeOf4
 v4:=Tryz.zeroValue4
 t22:=Tryz.underlying40
 a22:=Tryz.isAgg40
 z22:=Tryz.sizeOf40
 v22:=Tryz.zeroValue40
 i3:=by kernel_rfl }
open Go.RowKit Go.Lib Go.Sort in
theorem Tryz.slices_Compact_int (blk off cap:Nat) (zs:List Int) (w:World) (hH:Holds (Value.int .i64) w blk off zs.toArray) (hsz:zs.length≤9223372036854775807) (hcap:zs.length≤cap) :
  Calls Tryz.prog 80 #[.slice (some ⟨blk,off,none⟩) zs.length cap] w fun e w'=>e=.returned (.slice (some ⟨blk,off,none⟩) (Lib.compact zs).length cap)∧∃ q,w'=putRow (Value.int .i64) (Sort.ahead w q) blk off (Lib.compact zs++List.replicate (zs.length - (Lib.compact zs).length) 0).toArray:=Any.slices_Compact_int Tryz.laysNm220 blk off cap zs w hH hsz hcap
open Go.RowKit Go.Lib Go.Sort in
theorem Tryz.slices_Compact_int_empty (a:Option Addr) (cap:Nat) (w:World) :
  Calls Tryz.prog 80 #[.slice a 0 cap] w fun e w'=>e=.returned (.slice a 0 cap)∧w'=w:=Any.slices_Compact_int_empty Tryz.laysNm220 a cap w
open Go.RowKit Go.Sort in
theorem Tryz.slices_Sort_int_none (p:Option Addr) (cap:Nat) (w:World) :
  Calls Tryz.prog 79 #[.slice p 0 cap] w fun e w'=>e=.returned (.tuple #[])∧w'=w:=Any.slices_Sort_int_none Tryz.lays189 p cap w
end Go.Proofs
namespace Go.AE
open Go.Sort
theorem mapBlock_put {w:World} {b:Nat} {f:Array Value→Array Value} {c:Array Value} {ty:TypeId} {fr:Nat×Nat} (h:w.heap[b]?=some (.cells c ty fr)):mapBlock w b f=w.putObj b (.cells (f c) ty fr):=by
 unfold mapBlock World.putObj
 congr 1
 apply Array.ext_getElem?
 intro k
 simp only [Array.getElem?_modify,Array.getElem?_setIfInBounds]
 by_cases e:b=k
 ·subst e
  have hb:=(Array.getElem?_eq_some_iff.1 h).1
  simp only [if_true,h,Option.map_some,onCells,if_pos hb]
 ·simp [e]
theorem putRow_ok {α:Type} [Inhabited α] {enc:α→Value} {g:α→PV} (hE:∀ x w I,VP w I (g x) (enc x)) {w:World} {m:Mp} {K:List ABlk} (hS:St w m (hp K)) {r ty ver n:Nat} {f:Nat→List AV} (hr:nth K r=some (.arr ty 1 ver n f)) (hl:(m.L r).isLive) (d:Array α) (hd:d.size=n) :
  Tr w m (putRow enc w (m.ρ r) 0 d) m∧St (putRow enc w (m.ρ r) 0 d) m (hp (setN K r (.arr ty 1 ver n fun i=>[.p (g d[i]!)]))):=by
 have hb:=hS.blk r
 rw [hp_nth hr] at hb
 rcases hb with ⟨hb,_⟩|⟨cap,c,hL,h0,h00,h1,h2,h3⟩
 ·rw [hb] at hl;exact hl.elim
 have e:putRow enc w (m.ρ r) 0 d=w.putObj (m.ρ r) (.cells (Sort.putCells enc 0 d c) ty (0,0)):=mapBlock_put h1
 rw [e,← upd_setN _ (nth_lt hr)]
 refine⟨Tr.putObj hS r hl _,hS.putObj r hl _ _ ?_⟩
 refine .inr ⟨cap,Sort.putCells enc 0 d c,hL,h0,h00,World.putObj_heap_same (hS.lt r hl),by simp [Sort.putCells,h2],fun i hi=>⟨rfl,fun j hj=>?_⟩⟩
 have hj:j=0:=by simpa using hj
 subst hj
 refine⟨enc d[i]!,?_,.p _ _ (hE _ _ _)⟩
 simp only [Sort.putCells,Array.getElem?_mapIdx,Nat.mul_one,Nat.add_zero]
 rw [Array.getElem?_eq_getElem (by omega),Option.map_some,if_pos ⟨Nat.zero_le _,by omega⟩,Nat.sub_zero]
theorem holds_ok {α:Type} [Inhabited α] {enc:α→Value} {g:α→PV} (hE:∀ x w I u,VP w I (g x) u→u=enc x) {w:World} {m:Mp} {K:List ABlk} (hS:St w m (hp K)) {r ty ver n:Nat} {f:Nat→List AV} (hr:nth K r=some (.arr ty 1 ver n f)) (hl:(m.L r).isLive) (d:Array α) (hd:d.size=n)
  (hf:∀ i,i<n→f i=[.p (g d[i]!)]):Holds enc w (m.ρ r) 0 d:=fun j hj=>by
 have hb:=hS.blk r
 rw [hp_nth hr] at hb
 rcases hb with ⟨hb,_⟩|⟨cap,c,hL,h0,h00,h1,h2,h3⟩
 ·rw [hb] at hl;exact hl.elim
 obtain⟨h4,h5⟩:=h3 j (by omega)
 obtain⟨u,h6,h7⟩:=h5 0 (by omega)
 have e:(f j)[0]'(by omega)=.p (g d[j]!):=by
  have:(f j)[0]?=some (.p (g d[j]!)):=by rw [hf j (by omega)];rfl
  rw [List.getElem?_eq_getElem (by omega)] at this
  exact Option.some.inj this
 rw [e] at h7
 cases h7 with
 | p _ _ h =>
  have:=hE _ _ _ _ h
  subst this
  simp only [Nat.mul_one,Nat.add_zero] at h6
  constructor
  ·simp [World.cell?,h1,h6]
  ·simp [World.frozen?,h1]
theorem Tr.ahead (w:World) (m:Mp) (n:Nat):Tr w m (Sort.ahead w n) m :=
 ⟨rfl,rfl,rfl,Nat.le_refl _,fun _ _ _=>rfl,fun _ h=>h,fun _ _=>rfl,fun _ h=>.inl h,fun _=>Inf.step_refl _ _ rfl,fun _ h=>.inl ⟨h,rfl⟩⟩
theorem St.ahead {w:World} {m:Mp} {H:Nat→ABlk} (h:St w m H) (n:Nat):St (Sort.ahead w n) m H :=
 ⟨h.inj,h.notI,h.lt,h.Ilt,Gl.mono (w:=w) (w':=Sort.ahead w n) (fun _ h=>h) (fun _ _=>rfl) h.gl,fun r=>BlkOk.mono (w:=w) (m:=m) rfl (fun _ _ hv=>hv.mono (Tr.ahead w m n)) (h.blk r)⟩
theorem grow_below' (w:World) (os:Array Obj):RowKit.Below w.heap.size w (Sort.grow w os) :=
 ⟨rfl,rfl,rfl,by simp [Sort.grow],fun j hj=>by simp [Sort.grow,Array.getElem?_append,hj]⟩
theorem own_ok {w w':World} {m:Mp} {K:List ABlk} (hS:St w m (hp K)) (hB:RowKit.Below w.heap.size w w') {g:Nat} (hg:w.heap.size≤g) (hg':g<w'.heap.size) {l:Inf} {b:ABlk} (hb:BlkOk w' (m.set (len K) g l) l g b) :
  Tr w m w' (m.set (len K) g l)∧St w' (m.set (len K) g l) (hp (snoc K b)):=by
 have hab:=hS.absent (hp_len K)
 have hT:Tr w m w' (m.set (len K) g l):=by
  have h1:=Tr.below hS.Ilt hB
  refine⟨h1.os,h1.tape,h1.output,h1.size,h1.out,fun _ h=>h,h1.same,fun _ h=>.inl h,fun k=>?_,fun k hk=>?_⟩
  ·simp only [Mp.set]
   by_cases e:k=len K
   ·subst e;rw [hab];trivial
   ·simp only [e,if_false];exact Inf.step_refl _ _ trivial
  ·simp only [Mp.set] at hk ⊢
   by_cases e:k=len K
   ·simp only [e,if_true];exact .inr hg
   ·simp only [e,if_false] at hk ⊢;exact .inl ⟨hk,trivial⟩
 refine⟨hT,?_⟩
 rw [hp_snoc]
 refine⟨fun r1 r2 h1 h2 e=>?_,fun r1 h1=>?_,fun r1 h1=>?_,fun b hb=>?_,hS.gl.mono hT.imm hT.same,fun r1=>?_⟩
 ·simp only [Mp.set] at h1 h2 e
  by_cases e1:r1=len K<;>by_cases e2:r2=len K
  ·rw [e1,e2]
  ·simp only [e1,e2,if_true,if_false] at h1 h2 e
   have:=hS.lt r2 h2;omega
  ·simp only [e1,e2,if_true,if_false] at h1 h2 e
   have:=hS.lt r1 h1;omega
  ·simp only [e1,e2,if_false] at h1 h2 e
   exact hS.inj r1 r2 h1 h2 e
 ·simp only [Mp.set] at h1 ⊢
  by_cases e1:r1=len K
  ·simp only [e1,if_true];intro hI;have:=hS.Ilt _ hI;omega
  ·simp only [e1,if_false] at h1 ⊢;exact hS.notI r1 h1
 ·simp only [Mp.set] at h1 ⊢
  by_cases e1:r1=len K
  ·simp only [e1,if_true];exact hg'
  ·simp only [e1,if_false] at h1 ⊢;have:=hS.lt r1 h1;have:=hB.size;omega
 ·have:=hS.Ilt b hb;have:=hB.size;omega
 ·by_cases e1:r1=len K
  ·simp only [Mp.set,upd,e1,if_true];exact hb
  ·have hk:=hS.blk r1
   have e:BlkOk w' (m.set (len K) g l) (m.L r1) (m.ρ r1) (hp K r1):=by
    by_cases hl:(m.L r1).isLive
    ·exact hk.mono (hB.block _ (hS.lt r1 hl)) (fun _ _ hv=>hv.mono hT)
    ·exact hk.nolive hl
   simp only [Mp.set,upd,e1,if_false]
   exact e
end Go.AE
namespace Go.Proofs.YtojjkleplnijaaaGreatDoor
open Go.AE Go.Ru Go.RowKit Go.Sort
set_option maxRecDepth 100000
theorem setN_setN (l:List ABlk) (r:Nat) (b b':ABlk):setN (setN l r b) r b'=setN l r b':=by
 induction l generalizing r with
 | nil=>rfl
 | cons a l ih=>cases r with
  | zero=>rfl
  | succ r=>simp only [setN,ih]
theorem encI_of:∀ (x:Int) (w:World) (I:Nat→Prop) (u:Value),VP w I (.int .i64 x) u→u=Value.int .i64 x:=fun x w I u h=>by cases h;rfl
theorem encI_to:∀ (x:Int) (w:World) (I:Nat→Prop),VP w I (.int .i64 x) (Value.int .i64 x):=fun _ _ _=>.int ..
theorem toArr_get {α:Type} [Inhabited α] {l:List α} {i:Nat} (h:i<l.length) (d:α):l.toArray[i]! = l.getD i d:=by
 rw [getElem!_pos l.toArray i (by simpa using h)];simp [h]
def cSortI:AC:=fun args K k=>(args=[.p .nils]∧k (.ret (.tup [])) K)∨∃ r ver n zs f ty,args=[.slr r ver 0 n]∧nth K r=some (.arr ty 1 ver n f)∧List.length zs=n∧(∀ i,i<n→f i=[intV (zs.getD i 0)])∧n<1000000 ∧
 k (.ret (.tup [])) (setN K r (.arr ty 1 ver n fun i=>[intV ((sortI zs).getD i 0)]))
theorem sortI_ok:COk 79 cSortI:=by
 rintro args K k (⟨rfl,hk⟩|⟨r,ver,n,zs,f,ty,rfl,hr,hz,hf,hn,hk⟩)
 ·refine ACalls.lib (ent rfl rfl) fun w m Args hS hV=>?_
  obtain⟨u,rfl,h1⟩:=vl1 hV
  cases h1 with
  | p _ _ h=>cases h with
   | nils=>exact (Tryz.slices_Sort_int_none none 0 w).mono fun e w' ⟨h3,h4⟩=>⟨_,_,h3,by rw [h4];exact below_same w,.tup [] #[] rfl fun j hj=>by simp at hj,hk⟩
 ·refine⟨ent rfl rfl,fun w m Args hS hV=>?_⟩
  obtain⟨u,rfl,h1⟩:=vl1 hV
  have hb:=hS.blk r
  rw [hp_nth hr] at hb
  have hrl:=nth_lt hr
  cases h1 with
  | slr _ _ _ _ N sz cap hL hN =>
   have hl:(m.L r).isLive:=by rw [hL];trivial
   rcases hb with ⟨hb,_⟩|⟨cap',c,hL',h0,h00,h1,h2,h3⟩
   ·rw [hL] at hb;cases hb
   rw [hL] at hL'
   injection hL' with _ e2 e3 e4
   subst e3 e4
   have hH:=holds_ok encI_of hS hr hl zs.toArray (by simpa using hz) fun i hi=>by rw [hf i hi,toArr_get (by omega) 0];rfl
   have hC:=Tryz.slices_Sort_int (m.ρ r) 0 (cap - 0) zs w hH (hS.lt r hl) (by omega)
   rw [hz] at hC
   rw [Nat.zero_mul]
   refine hC.mono fun e w' ⟨he,q,os,hw'⟩=>?_
   subst he
   obtain⟨t1,s1⟩:=putRow_ok (g:=fun x=>PV.int .i64 x) encI_to (hS.ahead q) hr hl (sortI zs).toArray (by simp [sortI_len,hz])
   have hB:=grow_below' (putRow (Value.int .i64) (Sort.ahead w q) (m.ρ r) 0 (sortI zs).toArray) os
   have hw2:w'=Sort.grow (putRow (Value.int .i64) (Sort.ahead w q) (m.ρ r) 0 (sortI zs).toArray) os:=hw'
   subst hw2
   have s2:=s1.below hB
   have t2:=Tr.below s1.Ilt hB
   have eK:setN K r (.arr ty 1 ver n fun i=>[.p (.int .i64 (sortI zs).toArray[i]!)])=setN K r (.arr ty 1 ver n fun i=>[intV ((sortI zs).getD i 0)]):=by
    congr 2
    funext i
    by_cases h:i<(sortI zs).length
    ·rw [toArr_get h 0];rfl
    ·rw [getElem!_neg _ i (by simpa using h),List.getD_eq_getElem?_getD,List.getElem?_eq_none (by omega)];rfl
   rw [eK] at s2
   exact⟨m,.tup [],_,((Tr.ahead w m q).trans t1).trans t2,s2,.tup [] #[] rfl fun j hj=>by simp at hj,hk⟩
  | slrNil _ _ hL =>
   rcases hb with ⟨hb,h0⟩|⟨cap',c,hL',_⟩
   ·have hz0:zs=[]:=List.length_eq_zero_iff.1 hz
    refine (Tryz.slices_Sort_int_none none 0 w).mono fun e w' ⟨h3,h4⟩=>?_
    subst h3 h4
    refine⟨m,.tup [],_,Tr.refl _ m,hS.les ?_,.tup [] #[] rfl fun j hj=>by simp at hj,hk⟩
    exact lesK_setN (lesK.refl _) _ _ fun b0 hb0=>by
     rw [hr] at hb0;injection hb0 with hb0;subst hb0
     exact ABlk.arr_eq rfl fun i hi=>by omega
   ·rw [hL] at hL';cases hL'
  | slrOld _ _ _ _ ad c hold =>
   rcases hb with ⟨hb,h0⟩|⟨cap',c,hL',_⟩
   ·rw [hb] at hold;simp [Inf.old] at hold
   ·rw [hL'] at hold;simp [Inf.old] at hold
theorem VP.sl_take {w:World} {I:Nat→Prop} {sz n k:Nat} {g g':Nat→List PV} {b c:Nat} (h:VP w I (.sl sz n g) (.slice (some ⟨b,0,none⟩) n c)) (h0:0<n) (hk:k≤n) (hg:∀ i,i<k→g' i=g i):VP w I (.sl sz k g') (.slice (some ⟨b,0,none⟩) k c):=by
 cases h with
 | sl0=>omega
 | sl _ _ _ _ _ _ u hI hcap hc hv =>
  refine .sl sz k g' b 0 c u hI ⟨by omega,by omega⟩ (fun i hi j hj=>hc i (by omega) j (by rw [← hg i hi];exact hj)) (fun i hi=>?_)
  rw [hg i hi];exact hv i (by omega)
def cCompI:AC:=fun args K k=>(args=[.p .nils]∧k (.ret (.p .nils)) K)∨∃ r ver n zs f ty,args=[.slr r ver 0 n]∧nth K r=some (.arr ty 1 ver n f)∧List.length zs=n∧(∀ i,i<n→f i=[intV (zs.getD i 0)])∧n<1000000 ∧
 k (.ret (intsV (Lib.compact zs))) (setN K r .dead)
theorem compI_ok:COk 80 cCompI:=by
 rintro args K k (⟨rfl,hk⟩|⟨r,ver,n,zs,f,ty,rfl,hr,hz,hf,hn,hk⟩)
 ·refine ACalls.lib (ent rfl rfl) fun w m Args hS hV=>?_
  obtain⟨u,rfl,h1⟩:=vl1 hV
  cases h1 with
  | p _ _ h=>cases h with
   | nils=>exact (Tryz.slices_Compact_int_empty none 0 w).mono fun e w' ⟨h3,h4⟩=>⟨_,_,h3,by rw [h4];exact below_same w,.p _ _ .nils,hk⟩
 ·refine⟨ent rfl rfl,fun w m Args hS hV=>?_⟩
  obtain⟨u,rfl,h1⟩:=vl1 hV
  have hb:=hS.blk r
  rw [hp_nth hr] at hb
  have hrl:=nth_lt hr
  have hcl:=compact_len zs
  cases h1 with
  | slr _ _ _ _ N sz cap hL hN =>
   have hl:(m.L r).isLive:=by rw [hL];trivial
   rcases hb with ⟨hb,_⟩|⟨cap',c,hL',h0,h00,h1,h2,h3⟩
   ·rw [hL] at hb;cases hb
   rw [hL] at hL'
   injection hL' with _ e2 e3 e4
   subst e3 e4
   have hH:=holds_ok encI_of hS hr hl zs.toArray (by simpa using hz) fun i hi=>by rw [hf i hi,toArr_get (by omega) 0];rfl
   have hC:=Tryz.slices_Compact_int (m.ρ r) 0 (cap - 0) zs w hH (by omega) (by omega)
   rw [hz] at hC
   rw [Nat.zero_mul]
   refine hC.mono fun e w' ⟨he,q,hw'⟩=>?_
   subst he hw'
   have hdl:(Lib.compact zs++List.replicate (n - (Lib.compact zs).length) 0).toArray.size=n:=by simp;omega
   obtain⟨t1,s1⟩:=putRow_ok (g:=fun x=>PV.int .i64 x) encI_to (hS.ahead q) hr hl _ hdl
   have t1:=(Tr.ahead w m q).trans t1
   obtain⟨m',t2,s2,v2⟩:=freeze_sl s1 (r:=r) (nth_setN_eq hr) (fun i=>[PV.int .i64 (Lib.compact zs++List.replicate (n - (Lib.compact zs).length) 0).toArray[i]!]) (fun _ _=>rfl)
   have e5:setN (setN K r (.arr ty 1 ver n fun i=>[AV.p (.int .i64 (Lib.compact zs++List.replicate (n - (Lib.compact zs).length) 0).toArray[i]!)])) r .dead=setN K r .dead:=setN_setN _ _ _ _
   rw [e5] at s2
   refine⟨m',intsV (Lib.compact zs),_,t1.trans t2,s2,?_,hk⟩
   by_cases hn0:n=0
   ·have:Lib.compact zs=[]:=List.length_eq_zero_iff.1 (by omega)
    rw [this]
    exact .p _ _ (.sl0 ..)
   ·have hu:V (putRow (Value.int .i64) (Sort.ahead w q) (m.ρ r) 0 (Lib.compact zs++List.replicate (n - (Lib.compact zs).length) 0).toArray) m (.slr r ver 0 n) (.slice (some ⟨m.ρ r,0,none⟩) n (cap - 0)):=by
     have:=V.slr (w:=putRow (Value.int .i64) (Sort.ahead w q) (m.ρ r) 0 (Lib.compact zs++List.replicate (n - (Lib.compact zs).length) 0).toArray) (m:=m) r ver 0 n _ 1 cap hL hN
     rwa [Nat.zero_mul] at this
    cases v2 _ hu with
    | p _ _ h =>
     refine .p _ _ (VP.sl_take h (by omega) (by omega) fun i hi=>?_)
     rw [toArr_get (by simp;omega) 0,List.getD_eq_getElem?_getD,List.getElem?_append_left hi,← List.getD_eq_getElem?_getD]
     rfl
  | slrNil _ _ hL =>
   rcases hb with ⟨hb,h0⟩|⟨cap',c,hL',_⟩
   ·have hz0:zs=[]:=List.length_eq_zero_iff.1 hz
    subst hz0
    refine (Tryz.slices_Compact_int_empty none 0 w).mono fun e w' ⟨h3,h4⟩=>?_
    subst h3 h4
    obtain⟨m',t2,s2,v2⟩:=freeze_sl hS hr (fun _=>[]) (fun i hi=>by omega)
    exact⟨m',intsV _,_,t2,s2,.p _ _ (.sl0 ..),hk⟩
   ·rw [hL] at hL';cases hL'
  | slrOld _ _ _ _ ad c hold =>
   rcases hb with ⟨hb,h0⟩|⟨cap',c,hL',_⟩
   ·rw [hb] at hold;simp [Inf.old] at hold
   ·rw [hL'] at hold;simp [Inf.old] at hold
def cClone:AC:=fun args K k=>∃ zs,args=[.p (nxP zs)]∧List.length zs<1000000∧(zs=[]→k (.ret (.p .nils)) K)∧(zs≠[]→k (.ret (.slr (len K) 0 0 zs.length)) (snoc K (.arr 3 1 0 zs.length fun i=>[intV (zs.getD i 0)])))
theorem clone_ok:COk 78 cClone:=by
 rintro args K k ⟨zs,rfl,hn,hk0,hk1⟩
 cases zs with
 | nil =>
  refine ACalls.lib (ent rfl rfl) fun w m Args hS hV=>?_
  obtain⟨u,rfl,h1⟩:=vl1 hV
  cases h1 with
  | p _ _ h=>cases h with
   | nils=>exact (Tryz.slices_Clone_int_nil 0 0 w).mono fun e w' ⟨h3,h4⟩=>⟨_,_,h3,by rw [h4];exact below_same w,.p _ _ .nils,hk0 rfl⟩
 | cons a l =>
  refine⟨ent rfl rfl,fun w m Args hS hV=>?_⟩
  obtain⟨u,rfl,h1⟩:=vl1 hV
  have hk:=hk1 (by simp)
  cases h1 with
  | p _ _ h =>
   have h:VP w m.I (.sl 1 (l.length+1) (kidF (a::l))) u:=h
   cases h with
   | sl _ _ _ b o c u hI hcap hc hv =>
    have hcell:∀ j,j<(a::l).length→w.cell? ⟨b,o+j,none⟩=some (.int .i64 ((a::l).getD j 0)):=fun j hj=>by
     have h1:=hc j hj 0 (by simp [kidF])
     have h2:=encI_of _ _ _ _ (hv j hj 0 (by simp [kidF]))
     rw [Nat.mul_one,Nat.add_zero] at h1
     rw [h1,h2]
    refine (Tryz.slices_Clone_int b o (l.length+1) c (a::l) w (by simp) (by simp at hn;omega) hcell).mono fun e w' ⟨v',he,ho,hne,hB⟩=>?_
    subst he
    obtain⟨h1,h2⟩:=ho
    rcases h2 with ⟨h2,_⟩|⟨g,cap,cur,h2,h3,h4,h5,h6,h7,h8⟩
    ·exact absurd h2 hne
    subst h2
    have hg':g<w'.heap.size:=(Array.getElem?_eq_some_iff.1 h4).1
    have hlen:l.length+1=(a::l).length:=rfl
    obtain⟨t1,s1⟩:=own_ok (l:=.live 0 (l.length+1) 1 cap) (b:=.arr 3 1 0 (l.length+1) fun i=>[intV ((a::l).getD i 0)]) hS hB h3 hg' (.inr ⟨cap,cur,rfl,h5,h6,h4,h7,fun i hi=>⟨rfl,fun j hj=>by
     have hj:j=0:=by simpa using hj
     subst hj
     refine⟨.int .i64 ((a::l).getD i 0),?_,.p _ _ (.int ..)⟩
     have:=congrArg (fun L=>L[i]?) h8
     simp only [List.getElem?_take,Nat.mul_one,if_pos hi,Nat.add_zero] at this ⊢
     rw [Array.getElem?_toList] at this
     rw [this,List.take_of_length_le (by simp),List.getElem?_map,List.getElem?_eq_getElem (by simpa using hi)]
     simp [List.getD_eq_getElem?_getD,List.getElem?_eq_getElem (show i<(a::l).length by simpa using hi)]⟩⟩)
    refine⟨_,.slr (len K) 0 0 (l.length+1),_,t1,s1,?_,hk⟩
    have:=V.slr (w:=w') (m:=m.set (len K) g (.live 0 (l.length+1) 1 cap)) (len K) 0 0 (l.length+1) (l.length+1) 1 cap (by simp [Mp.set]) (Nat.zero_add _)
    simpa [Mp.set] using this
end Go.Proofs.YtojjkleplnijaaaGreatDoor
namespace Go.Ru
theorem setI_nil:setI []=[]:=List.length_eq_zero_iff.1 (Nat.le_zero.1 (setI_len []))
end Go.Ru
namespace Go.Proofs.YtojjkleplnijaaaGreatDoor
open Go.AE Go.Ru
set_option maxRecDepth 100000
set_option maxHeartbeats 1000000
theorem row_snoc {l:List Int} {x:Int} {a:Int} {i:Nat} (hi:i<l.length+1+1):catF (l.length+1) (fun i=>[intV ((a::l).getD i 0)]) (fun i=>takeN (dropN [intV x] (i*1)) 1) i=[intV ((a::l++[x]).getD i 0)]:=by
 by_cases h:i<l.length+1
 ·rw [catF_lt h,List.getD_eq_getElem?_getD,List.getD_eq_getElem?_getD,List.getElem?_append_left (by simpa using h)]
 ·obtain rfl:i=l.length+1:=by omega
  rw [catF_ge (Nat.le_refl _),Nat.sub_self]
  simp [takeN,dropN,intV]
def gAf:AG:=gput 78 cClone (gput 79 cSortI (gput 80 cCompI g0))
theorem gAf_ok:GOk Tryz.prog gAf:=gput_ok clone_ok (gput_ok sortI_ok (gput_ok compI_ok g0_ok))
def eAfter:AC:=fun args K k=>∃ s i l,args=[graphV s,intV i]∧s.n<1000000∧(∀ x,x<s.n→(s.f x).nx.length<1000)∧afterT s i=l∧k (.ret (intsV l)) K
theorem after_ok:COk 39 eAfter:=by
 rintro args K k ⟨s,i,l,rfl,hn,hb,rfl,hk⟩
 refine frameZ (K0:=[]) (X:=K) gAf_ok 19 rfl trivial fun Q hr=>?_
 have hnil:¬ (0≤i∧i<s.n)→k (.ret (intsV [])) K:=fun h=>by
  rw [show afterT s i=[] by simp only [afterT,if_neg h]] at hk;exact hk
 conv=>whnf
 refine two_dec (fun h0=>?_) (fun h0=>?_)
 ·have h0:i<0:=h0
  conv=>whnf
  exact hr _ _ (intsV []) [] _ (Wk1.le (AV.nils_le _ _) (lesK.refl _)) rfl rfl trivial (hnil (by omega))
 have h0:¬ i<0:=h0
 conv=>whnf
 refine two_dec (fun h1=>?_) (fun h1=>?_)
 ·have h1:i≥(s.n:Int):=h1
  conv=>whnf
  exact hr _ _ (intsV []) [] _ (Wk1.le (AV.nils_le _ _) (lesK.refl _)) rfl rfl trivial (hnil (by omega))
 have h1:¬ i≥(s.n:Int):=h1
 obtain⟨x,rfl⟩:∃ x:Nat,i=(x:Int):=⟨i.toNat,by omega⟩
 have hx:x<s.n:=by omega
 have hbx:=hb x hx
 have hval:∀ v,nxtS (s.f x)=v→k (.ret (intsV (setI v))) K:=fun v hv=>by
  rw [show afterT s (x:Int)=setI v by simp only [afterT];rw [if_pos ⟨by omega,by omega⟩,Int.toNat_natCast,hv]] at hk;exact hk
 cases hnx:(s.f x).nx with
 | nil =>
  have e:nxP (s.f ((x:Int).toNat)).nx=.nils:=by rw [Int.toNat_natCast,hnx];rfl
  conv=>whnf
  refine⟨⟨by omega,by omega,rfl⟩,?_⟩
  conv=>whnf
  rw [e]
  conv=>whnf
  refine⟨[],rfl,by decide,fun _=>?_,fun h=>absurd rfl h⟩
  conv=>whnf
  refine⟨⟨by omega,by omega,rfl⟩,?_⟩
  conv=>whnf
  refine two_ne (fun h2=>?_) (fun h2=>?_)
  ·have h2:(s.f x).ra≠-1:=h2
   have hv:=hval [(s.f x).ra] (by simp [nxtS,hnx,h2])
   conv=>whnf
   refine⟨⟨by omega,by omega,rfl⟩,?_⟩
   conv=>whnf
   refine Chk.mk ⟨rfl,rfl,rfl,allLt_ok ⟨trivial,rfl⟩⟩ ?_
   conv=>whnf
   refine Chk.mk ⟨by decide,by decide⟩ ?_
   conv=>whnf
   refine .inr ⟨_,0,1,[(s.f x).ra],_,_,rfl,rfl,rfl,fun i hi=>by obtain rfl:i=0:=(by omega);rfl,by decide,?_⟩
   conv=>whnf
   refine .inr ⟨_,0,1,sortI [(s.f x).ra],_,_,rfl,rfl,sortI_len _,fun _ _=>rfl,by decide,?_⟩
   conv=>whnf
   exact hr _ _ _ [] _ (Wk1.refl _ _ _) rfl rfl trivial hv
  ·have h2:(s.f x).ra=-1:=h2
   have hv:k (.ret (intsV [])) K:=setI_nil▸hval [] (by simp [nxtS,hnx,h2])
   conv=>whnf
   refine .inl ⟨rfl,?_⟩
   conv=>whnf
   refine .inl ⟨rfl,?_⟩
   conv=>whnf
   exact hr _ _ (intsV []) [] _ (Wk1.le (AV.nils_le _ _) (lesK.refl _)) rfl rfl trivial hv
 | cons a l =>
  have e:nxP (s.f ((x:Int).toNat)).nx=.sl 1 (l.length+1) (kidF (a::l)):=by rw [Int.toNat_natCast,hnx];rfl
  rw [hnx] at hbx
  conv=>whnf
  refine⟨⟨by omega,by omega,rfl⟩,?_⟩
  conv=>whnf
  rw [e]
  conv=>whnf
  refine⟨a::l,rfl,by omega,fun h=>(List.cons_ne_nil _ _ h).elim,fun _=>?_⟩
  conv=>whnf
  refine⟨⟨by omega,by omega,rfl⟩,?_⟩
  conv=>whnf
  refine two_ne (fun h2=>?_) (fun h2=>?_)
  ·have h2:(s.f x).ra≠-1:=h2
   have hv:=hval (a::l++[(s.f x).ra]) (by simp [nxtS,hnx,h2])
   conv=>whnf
   refine⟨⟨by omega,by omega,rfl⟩,?_⟩
   conv=>whnf
   refine Chk.mk ⟨rfl,rfl,rfl,allLt_ok ⟨trivial,rfl⟩⟩ ?_
   conv=>whnf
   refine Chk.mk ⟨rfl,rfl,rfl,rfl,(by show (l.length+1+1)*8≤140737488355328;simp at hbx;omega),(by show l.length+1+1≤9223372036854775807;simp at hbx;omega)⟩ ?_
   conv=>whnf
   refine .inr ⟨_,0,l.length+1+1,a::l++[(s.f x).ra],_,_,rfl,rfl,by simp,fun i hi=>row_snoc hi,by simp at hbx;omega,?_⟩
   conv=>whnf
   refine .inr ⟨_,0,l.length+1+1,sortI (a::l++[(s.f x).ra]),_,_,rfl,rfl,(by rw [sortI_len];simp),fun _ _=>rfl,(by simp at hbx;omega),?_⟩
   conv=>whnf
   exact hr _ _ _ [] _ (Wk1.refl _ _ _) rfl rfl trivial hv
  ·have h2:(s.f x).ra=-1:=h2
   have hv:=hval (a::l) (by simp [nxtS,hnx,h2])
   conv=>whnf
   refine .inr ⟨_,0,l.length+1,a::l,_,_,rfl,rfl,rfl,fun _ _=>rfl,by simp at hbx;omega,?_⟩
   conv=>whnf
   refine .inr ⟨_,0,l.length+1,sortI (a::l),_,_,rfl,rfl,sortI_len _,fun _ _=>rfl,by simp at hbx;omega,?_⟩
   conv=>whnf
   exact hr _ _ _ [] _ (Wk1.refl _ _ _) rfl rfl trivial hv
theorem vl_le2 {w:World} {m:Mp} {a a' b:AV} {A:Array Value} (h:VL w m [a,b] A) (ha:a.le a'):VL w m [a',b] A:=by
 obtain⟨h1,h2⟩:=h
 refine⟨h1,fun j hj hj'=>?_⟩
 rcases j with _|_|j
 ·exact ha _ _ _ (h2 0 (by simp) hj')
 ·exact h2 1 (by simp) hj'
 ·simp at hj;omega
def eEndsV (kind:Int):AC:=fun args K k=>∃ s proc v,args=[graphV s,intV proc]∧s.n<1000000∧endT s kind proc=v∧k (.ret (intV v)) K
theorem endsV_ok {f:FuncId} {kind:Int} (h:COk f (eEnds kind)):COk f (eEndsV kind):=by
 rintro args K k ⟨s,proc,v,rfl,hn,hv,hk⟩
 exact (h [graphW s,intV proc] K k ⟨s,proc,v,rfl,hn,hv,hk⟩).pre fun w m Args hS hV=>⟨m,Tr.refl w m,hS,vl_le2 hV (graph_weak s)⟩
def gRe:AG:=gput 39 eAfter (gput 79 cSortI g0)
theorem gRe_ok:GOk Tryz.prog gRe:=gput_ok after_ok (gput_ok sortI_ok g0_ok)
def eReach:AC:=fun args K k=>∃ s i,args=[graphV s,intV i]∧s.n<100000∧(∀ x,x<s.n→(s.f x).nx.length<1000)∧Clos s∧(∀ l,ReachL s i l→k (.ret (intsV l)) K)
theorem reach_no {s:BSt} {i:Int} (h:¬ (0≤i∧i<(s.n:Int))):ReachL s i []:=⟨fun _=>rfl,fun h0 h1=>absurd ⟨h0,h1⟩ h,List.Pairwise.nil,Nat.zero_le _⟩
def seenA (n:Nat) (f:Nat→Bool):ABlk:=.arr 4 1 0 n (fun i=>[.p (.bool (f i))])
def intsA (ver:Nat) (l:List Int):ABlk:=.arr 3 1 ver l.length (fun i=>[intV (l.getD i 0)])
theorem seen_set {n x x':Nat} {f:Nat→Bool} {c:List AV} (hx:x'=x) (hc:c=[.p (.bool true)]):(ABlk.arr 4 1 0 n (updF (fun i=>[.p (.bool (f i))]) x' c)).le (seenA n fun j=>if j=x then true else f j):=by
 subst hx hc
 refine ABlk.arr_eq rfl fun i hi=>?_
 rw [updF_eq]
 by_cases e:i=x'<;>simp [e]
theorem ints_cat {ver n m:Nat} {l l2:List Int} {f g:Nat→List AV} (hn:n=l.length) (hm:m=l2.length) (hf:∀ i,i<l.length→f i=[intV (l.getD i 0)]) (hg:∀ i,i<l2.length→g i=[intV (l2.getD i 0)]) :
  (ABlk.arr 3 1 ver (n+m) (catF n f g)).le (intsA ver (l++l2)):=by
 subst hn hm
 refine ABlk.arr_eq (by simp) fun i hi=>?_
 by_cases h:i<l.length
 ·rw [catF_lt h,hf i h,List.getD_eq_getElem?_getD,List.getD_eq_getElem?_getD,List.getElem?_append_left h]
 ·rw [catF_ge (by omega),hg _ (by omega),List.getD_eq_getElem?_getD,List.getD_eq_getElem?_getD,List.getElem?_append_right (by omega)]
theorem seen_cl {n m x:Nat} {f:Nat→Bool} {b:AV} (hb:AV.cl m b=true:=by rfl):∀ i,i<n→AV.cls m (updF (fun i=>[.p (.bool (f i))]) x [b] i)=true:=fun i _=>by
 rw [updF_eq]
 split
 ·simp [AV.cls,hb]
 ·rfl
theorem cat_cl {n n' m:Nat} {f g:Nat→List AV} (hf:∀ i,AV.cls m (f i)=true) (hg:∀ i,AV.cls m (g i)=true):∀ i,i<n'→AV.cls m (catF n f g i)=true:=fun i _=>by
 unfold catF
 split
 ·exact hf i
 ·exact hg _
theorem row_cl {n m:Nat} {l:List Int} {v:Int}:∀ i,i<n+1→AV.cls m (catF n (fun i=>[intV (l.getD i 0)]) (fun i=>takeN (dropN [intV v] (i*1)) 1) i)=true:=fun i hi=>by
 by_cases h:i<n
 ·rw [catF_lt h];rfl
 ·obtain rfl:i=n:=by omega
  rw [catF_ge (Nat.le_refl _),Nat.sub_self];rfl
theorem ints_cut {ver n:Nat} {l:List Int} {x:Int} (hn:n=l.length):(ABlk.arr 3 1 ver n fun i=>[intV ((l++[x]).getD i 0)]).le (intsA ver l):=by
 subst hn
 refine ABlk.arr_eq rfl fun i hi=>?_
 rw [List.getD_eq_getElem?_getD,List.getD_eq_getElem?_getD,List.getElem?_append_left hi]
theorem Wk1.freezeL {N r ty:Nat} {K:List ABlk} {l:List Int} {n:Nat} (hl:l.length=n) (hr:nth K r=some (.arr ty 1 0 n fun i=>[intV (l.getD i 0)])):Wk1 N (.slr r 0 0 n) K (intsV l) (setN K r .dead):=by
 subst hl
 exact Wk1.freeze hr (kidF l) fun _ _=>rfl
theorem reach_ok:COk 41 eReach:=by
 rintro args K k ⟨s,i,rfl,hn,hsh,hcl,hk⟩
 refine frameZ (K0:=[]) (X:=K) gRe_ok 19 rfl trivial fun Q hr=>?_
 conv=>whnf
 refine two_dec (fun h0=>?_) (fun h0=>?_)
 ·have h0:i<0:=h0
  conv=>whnf
  exact hr _ _ (intsV []) [] _ (Wk1.le (AV.nils_le _ _) (lesK.refl _)) rfl rfl trivial (hk [] (reach_no (by omega)))
 have h0:¬ i<0:=h0
 conv=>whnf
 refine two_dec (fun h1=>?_) (fun h1=>?_)
 ·have h1:i≥(s.n:Int):=h1
  conv=>whnf
  exact hr _ _ (intsV []) [] _ (Wk1.le (AV.nils_le _ _) (lesK.refl _)) rfl rfl trivial (hk [] (reach_no (by omega)))
 have h1:¬ i≥(s.n:Int):=h1
 have hf0:0≤i:=by omega
 have hf1:i<(s.n:Int):=by omega
 conv=>whnf
 refine Chk.mk ⟨by omega,Int.le_refl _,by omega,(by show ((1:Nat):Int)*(s.n:Int)≤140737488355328;omega)⟩ ?_
 conv=>whnf
 refine LoopW.le (Le.nilRow (t':=[(0,.yld 4),(1,.ptr 1 0 1 0 0),(4,.slr 5 0 0 s.n),(5,.slr 6 0 0 1)]) (K':=[_,_,_,.box 40 [.slr 7 0 0 0],_,seenA s.n fun _=>false,intsA 0 [i]]) 3 1 (fun i=>[intV (([]:List Int).getD i 0)]) rfl
  ⟨.inl (AV.le_refl _),.inl (AV.le_refl _),.inl (AV.le_refl _),.inl (AV.le_refl _),trivial⟩ ⟨.inl (ABlk.le_refl _),.inl (ABlk.le_refl _),.inl (ABlk.le_refl _),.inr ⟨_,_,_,rfl,rfl,.inr ⟨rfl,rfl⟩,trivial⟩,.inl (ABlk.le_refl _),.inl (ABlk.le_refl _),.inl (ABlk.arr_eq rfl fun j hj=>by obtain rfl:j=0:=(by omega);rfl),trivial⟩) ?_
 refine loop_up (ι:=WSt) [0,1,4] (fun c=>[(5,.slr 6 c.ver 0 c.left.length)]) (fun c=>[(3,.box 40 [.slr 7 0 0 c.out.length]),(5,seenA s.n c.seen),(6,intsA c.ver c.left),(7,intsA 0 c.out)])
  (fun c=>WInv s i c) (fun c=>(s.n - c.out.length)*2000+c.left.length) ⟨fun _=>false,[i],[],0⟩
  ⟨AV.le_refl _,trivial⟩ ⟨upLe1 rfl (ABlk.le_refl _),upLe1 rfl (ABlk.le_refl _),upLe1 rfl (ABlk.le_refl _),upLe1 rfl (ABlk.le_refl _),trivial⟩ (winv0 s) ?_
 rintro Y hle ⟨seen,left,out,ver⟩ hI ih
 conv=>whnf
 refine two_dec (fun h=>?_) (fun h=>?_)
 ·have h:0<left.length:=by have h:(left.length:Int)>0:=h;omega
  obtain⟨l,x,rfl⟩:∃ l x,left=l++[x]:=⟨_,_,(List.dropLast_concat_getLast (fun e=>by rw [e] at h;simp at h)).symm⟩
  have hll:l.length<1000000000:=by have:=hI.ll;have:=hI.ol;simp at *;omega
  obtain⟨x0,x1⟩:=(hI.ok x (.inr (by simp))).range hcl hf0 hf1
  obtain⟨x,rfl⟩:∃ y:Nat,x=(y:Int):=⟨x.toNat,by omega⟩
  have hlen:(l++[(x:Int)]).length=l.length+1:=by simp
  have hwl:IntKind.i64.wrap (((l++[(x:Int)]).length:Int) - 1)=(l.length:Int):=by rw [hlen,w64 ⟨by omega,by omega⟩];omega
  have hc0:0≤IntKind.i64.wrap (((l++[(x:Int)]).length:Int) - 1):=by rw [hwl];omega
  have hc1:IntKind.i64.wrap (((l++[(x:Int)]).length:Int) - 1)<((l++[(x:Int)]).length:Int):=by rw [hwl];simp;omega
  have hxv:(l++[(x:Int)]).getD (0+(IntKind.i64.wrap (((l++[(x:Int)]).length:Int) - 1)).toNat) 0=(x:Int):=by rw [hwl];simp
  have hv0:0≤(l++[(x:Int)]).getD (0+(IntKind.i64.wrap (((l++[(x:Int)]).length:Int) - 1)).toNat) 0:=by rw [hxv];omega
  have hv1:(l++[(x:Int)]).getD (0+(IntKind.i64.wrap (((l++[(x:Int)]).length:Int) - 1)).toNat) 0<(s.n:Int):=by rw [hxv];omega
  conv=>whnf
  refine Chk.mk ⟨rfl,Nat.zero_add _,hc0,hc1,rfl⟩ ?_
  conv=>whnf
  refine Chk.mk ⟨rfl,rfl⟩ ?_
  conv=>whnf
  refine Chk.mk ⟨rfl,rfl,hc0,hc1,rfl⟩ ?_
  conv=>whnf
  have hxs:0+((l++[(x:Int)]).getD (0+(IntKind.i64.wrap (((l++[(x:Int)]).length:Int) - 1)).toNat) 0).toNat=x:=by rw [hxv];simp
  have hwn:(IntKind.i64.wrap (((l++[(x:Int)]).length:Int) - 1)).toNat=l.length:=by rw [hwl];simp
  have hxn:x<s.n:=by omega
  refine Chk.mk ⟨rfl,Nat.zero_add _,hv0,hv1,rfl⟩ ?_
  conv=>whnf
  refine Chk.mk ⟨rfl,rfl⟩ ?_
  conv=>whnf
  refine two_intro (fun hs=>?_) (fun hs=>?_)
  ·have hs:seen x=true:=by
    have hs:seen (0+((l++[(x:Int)]).getD (0+(IntKind.i64.wrap (((l++[(x:Int)]).length:Int) - 1)).toNat) 0).toNat)=true:=hs
    rwa [hxs] at hs
   have hxo:(x:Int)∈out:=(hI.sn x hxn).1 hs
   conv=>whnf
   refine hle _ _ (Le.cutEnv 8 rfl rfl ⟨rfl,rfl,rfl,rfl,rfl,fun _ _=>rfl,fun _ _=>rfl,fun _ _=>rfl,trivial⟩ ?_ ?_) (ih ⟨seen,l,out,ver+1⟩ (by simp only [hlen];omega) (hI.skip rfl hxo _))
   ·skip
    repeat' (first|exact trivial|((conv=>whnf);first|exact trivial|refine⟨AV.le_refl _,?_⟩|refine⟨ABlk.le_refl _,?_⟩|(refine⟨AV.le_of_eq ?_,?_⟩;focus ((first|exact congrArg (fun n=>AV.slr 6 (ver+1) 0 n) hwn|fail);done))|(refine⟨ABlk.le_of_eq ?_,?_⟩;focus ((first|exact congrArg (fun n=>AV.slr 6 (ver+1) 0 n) hwn|fail);done))|fail)|fail)
   ·skip
    iterate 6 ((conv=>whnf);refine⟨ABlk.le_refl _,?_⟩)
    (conv=>whnf);refine⟨ints_cut hwn,?_⟩
    (conv=>whnf);refine⟨ABlk.le_refl _,?_⟩
    (conv=>whnf);exact trivial
  ·have hs:seen x=false:=by
    have hs:seen (0+((l++[(x:Int)]).getD (0+(IntKind.i64.wrap (((l++[(x:Int)]).length:Int) - 1)).toNat) 0).toNat)=false:=hs
    rwa [hxs] at hs
   have hxo:(x:Int) ∉ out:=fun e=>by
    have h2:seen x=true:=(hI.sn x hxn).2 e
    rw [h2] at hs;cases hs
   have hal:(afterT s (x:Int)).length≤1001:=by
    rw [after_in hxn]
    have h1:=setI_len (nxtS (s.f x))
    have h2:=hsh x hxn
    have h3:(nxtS (s.f x)).length≤(s.f x).nx.length+1:=by unfold nxtS;split<;>simp
    omega
   obtain⟨hI',hol⟩:=hI.take hcl hf0 hf1 rfl hxo hxn hal (ver+1)
   have hol:out.length<s.n:=hol
   have hI':WInv s i ⟨fun j=>if j=x then true else seen j,l++afterT s (x:Int),out++[(x:Int)],ver+1⟩:=hI'
   have hlen2:out.length+1=(out++[(x:Int)]).length:=by simp
   have hlen3:(IntKind.i64.wrap (((l++[(x:Int)]).length:Int) - 1)).toNat+(afterT s (x:Int)).length=(l++afterT s (x:Int)).length:=by rw [hwn,List.length_append]
   conv=>whnf
   refine Chk.mk ⟨rfl,Nat.zero_add _,hv0,hv1,rfl⟩ ?_
   conv=>whnf
   refine Chk.mk ⟨rfl,rfl⟩ ?_
   conv=>whnf
   refine Chk.mk ⟨rfl,rfl,rfl,allLt_ok ⟨trivial,rfl⟩⟩ ?_
   conv=>whnf
   refine Chk.mk ⟨rfl,rfl,rfl,rfl,(by show (out.length+1)*8≤140737488355328;omega),(by show out.length+1≤9223372036854775807;omega)⟩ ?_
   conv=>whnf
   refine⟨s,_,afterT s (x:Int),rfl,by omega,hsh,congrArg (afterT s) hxv,?_⟩
   conv=>whnf
   refine Chk.mk ⟨rfl,fun _ _=>rfl⟩ ?_
   conv=>whnf
   have hol2:=hI.ol
   have hba:((IntKind.i64.wrap (((l++[(x:Int)]).length:Int) - 1)).toNat+(afterT s (x:Int)).length)*8≤140737488355328:=by rw [hwn];omega
   have hbb:(IntKind.i64.wrap (((l++[(x:Int)]).length:Int) - 1)).toNat+(afterT s (x:Int)).length≤9223372036854775807:=by rw [hwn];omega
   refine Chk.mk ⟨rfl,rfl,rfl,rfl,hba,hbb⟩ ?_
   conv=>whnf
   refine hle _ _ (Le.cutEnv 8 rfl rfl ⟨rfl,rfl,rfl,rfl,rfl,seen_cl,cat_cl (fun _=>rfl) (fun _=>rfl),row_cl,trivial⟩ ?_ ?_) (ih ⟨fun j=>if j=x then true else seen j,l++afterT s (x:Int),out++[(x:Int)],ver+1⟩ (by simp only [List.length_append,List.length_cons,List.length_nil];omega) hI')
   ·skip
    repeat' (first|exact trivial|((conv=>whnf);first|exact trivial|refine⟨AV.le_refl _,?_⟩|refine⟨ABlk.le_refl _,?_⟩|(refine⟨AV.le_of_eq ?_,?_⟩;focus ((first|exact congrArg (fun n=>AV.slr 6 (ver+1) 0 n) hlen3|fail);done))|(refine⟨ABlk.le_of_eq ?_,?_⟩;focus ((first|exact congrArg (fun n=>AV.slr 6 (ver+1) 0 n) hlen3|fail);done))|fail)|fail)
   ·skip
    iterate 3 ((conv=>whnf);refine⟨ABlk.le_refl _,?_⟩)
    (conv=>whnf);refine⟨ABlk.le_of_eq (congrArg (fun n=>ABlk.box 40 [.slr 7 0 0 n]) hlen2),?_⟩
    (conv=>whnf);refine⟨ABlk.le_refl _,?_⟩
    (conv=>whnf);refine⟨seen_set hxs rfl,?_⟩
    (conv=>whnf);refine⟨ints_cat hwn rfl (fun i hi=>by rw [List.getD_eq_getElem?_getD,List.getD_eq_getElem?_getD,List.getElem?_append_left hi]) (fun _ _=>rfl),?_⟩
    (conv=>whnf);refine⟨ints_cat rfl rfl (fun _ _=>rfl) (fun i hi=>by obtain rfl:i=0:=(by simp at hi;omega);exact congrArg (fun v=>[intV v]) hxv),?_⟩
    (conv=>whnf);exact trivial
 ·have h:left=[]:=by
   have h:¬ (left.length:Int)>0:=h
   exact List.length_eq_zero_iff.1 (by omega)
  have hD:=hI.done hcl hf0 hf1 h
  have hol:=hI.ol
  conv=>whnf
  refine .inr ⟨_,0,out.length,out,_,_,rfl,rfl,rfl,fun _ _=>rfl,(by have:out.length≤s.n:=hol;omega),?_⟩
  conv=>whnf
  exact hr _ _ (intsV (sortI out)) [] _ (Wk1.freezeL (sortI_len out) rfl) rfl rfl trivial (hk _ hD)
def gRz8:AG:=gput 10 eRCheck (gput 73 eMay (gput 74 cRais g0))
theorem gRz8_ok:GOk Tryz.prog gRz8:=gput_ok rcheck_ok (gput_ok eMay_ok (gput_ok rais_ok g0_ok))
def eRRaises:AC:=fun args K k=>∃ ns root i v,args=[treeV ns root,intV i]∧Tame ns∧Kt ns∧raisesT ns root i=v∧k (.ret (.p (.bool v))) K
theorem rraises8_ok:COk 32 eRRaises:=by
 rintro args K k ⟨ns,root,i,v,rfl,ta,kt,rfl,hk⟩
 obtain⟨a,e,hc⟩:∃ a e,checkTree ns root=(a,e):=⟨_,_,rfl⟩
 simp only [raisesT,hc] at hk
 by_cases he:e=0
 case neg =>
  have hk:k (.ret (.p (.bool false))) K:=by rw [beq_eq_false_iff_ne.2 he] at hk;exact hk
  refine frame0P gRz8_ok 19 rfl fun Q hr=>?_
  conv=>whnf
  refine⟨ns,root,a,e,rfl,ta,kt,hc,?_⟩
  conv=>whnf
  refine two_ne (fun _=>?_) (fun h=>absurd h he)
  conv=>whnf
  exact hr _ _ rfl hk
 subst he
 have rt:=right_of (check_right hc)
 rw [beq_self_eq_true,Bool.true_and] at hk
 by_cases hin:0≤i∧i<(ns.length:Int)
 case neg =>
  have hk:k (.ret (.p (.bool false))) K:=by
   by_cases h0:0≤i
   ·rw [decide_eq_true h0,decide_eq_false (fun h1=>hin ⟨h0,h1⟩)] at hk;exact hk
   ·rw [decide_eq_false h0] at hk;exact hk
  refine frame0P gRz8_ok 19 rfl fun Q hr=>?_
  conv=>whnf
  refine⟨ns,root,a,0,rfl,ta,kt,hc,?_⟩
  conv=>whnf
  refine two_dec (fun _=>?_) (fun h0=>?_)
  ·conv=>whnf
   exact hr _ _ rfl hk
  have h0:¬ i<0:=h0
  conv=>whnf
  refine two_dec (fun _=>?_) (fun h1=>absurd (show i≥(ns.length:Int) by omega) h1)
  conv=>whnf
  exact hr _ _ rfl hk
 rw [decide_eq_true hin.1,decide_eq_true hin.2,Bool.true_and,Bool.true_and] at hk
 obtain⟨j,rfl⟩:∃ j:Nat,i=(j:Int):=⟨i.toNat,by omega⟩
 have hj:j<ns.length:=by omega
 have hjl:=hin.2
 have hj0:=hin.1
 rw [Int.toNat_natCast] at hk
 obtain⟨b,hb⟩:∃ b,raisesF ns j=b:=⟨_,rfl⟩
 rw [hb] at hk
 refine frame0P gRz8_ok 19 rfl fun Q hr=>?_
 conv=>whnf
 refine⟨ns,root,a,0,rfl,ta,kt,hc,?_⟩
 conv=>whnf
 refine two_dec (fun h1=>absurd hjl (Int.not_lt.2 h1)) (fun _=>?_)
 conv=>whnf
 refine⟨⟨hj0,hjl,rfl⟩,?_⟩
 conv=>whnf
 refine two_dec (fun h20=>?_) (fun h20=>?_)
 ·have h20:(nd ns j).k≥20:=h20
  conv=>whnf
  refine two_dec (fun h27=>?_) (fun h27=>?_)
  ·have h27:(nd ns j).k≤27:=h27
   have hex:=exB_iff.2 ⟨h20,h27⟩
   have hk:k (.ret (.p (.bool b))) K:=by rw [hex,Bool.or_true,Bool.true_and] at hk;exact hk
   conv=>whnf
   refine⟨ns,root,_,j,j+1,b,rfl,rfl,rt,hj,Nat.lt_succ_self _,hex,hb,?_⟩
   conv=>whnf
   exact hr _ _ rfl hk
  ·have h27:¬ (nd ns j).k≤27:=h27
   have:=rt.kr j hj
   omega
 ·have h20:¬ (nd ns j).k≥20:=h20
  have hex:exB (nd ns j).k=false:=by
   cases e:exB (nd ns j).k with
   | false=>rfl
   | true=>exact absurd (exB_iff.1 e).1 h20
  rw [hex,Bool.or_false] at hk
  conv=>whnf
  refine⟨⟨hj0,hjl,rfl⟩,?_⟩
  conv=>whnf
  refine two_dec (fun h7=>?_) (fun h7=>?_)
  ·have h7:(nd ns j).k≥7:=h7
   conv=>whnf
   refine two_dec (fun h17=>?_) (fun h17=>?_)
   ·have h17:(nd ns j).k≤17:=h17
    have hst:=stB_iff.2 ⟨h7,h17⟩
    have hk:k (.ret (.p (.bool b))) K:=by rw [hst,Bool.true_and] at hk;exact hk
    conv=>whnf
    refine⟨ns,root,_,j,b,rfl,rfl,rt,hj,hst,hb,?_⟩
    conv=>whnf
    exact hr _ _ rfl hk
   ·have h17:¬ (nd ns j).k≤17:=h17
    have hk:k (.ret (.p (.bool false))) K:=by rw [show stB (nd ns j).k=false by simp [stB,h17]] at hk;exact hk
    conv=>whnf
    exact hr _ _ rfl hk
  ·have h7:¬ (nd ns j).k≥7:=h7
   have hk:k (.ret (.p (.bool false))) K:=by rw [show stB (nd ns j).k=false by simp [stB];omega] at hk;exact hk
   conv=>whnf
   exact hr _ _ rfl hk
def tK (ns:List Nd) (root:Int) (s:BSt):List ABlk:=[tbx ns root,.box 42 [.p (.sl 5 s.n (gnF s.f)),.p (.sl 1 s.ps.length (kidF s.ps))],tbx ns root,rgB s]
theorem tK_cl {ns:List Nd} {root:Int} {s:BSt}:clK 4 (tK ns root s):=⟨rfl,rfl,rfl,rfl,trivial⟩
def rP:AV:=.ptr 3 0 1 0 0
def cTOf:AC:=fun args K k=>∃ ns root s p v X,args=[rP,intV p]∧K=tK ns root s++X∧s.n<1000000∧ofT s p=v∧k (.ret (intV v)) (tK ns root s++X)
def cTEnd:AC:=fun args K k=>∃ ns root s kd p v X,args=[rP,intV kd,intV p]∧K=tK ns root s++X∧s.n<1000000∧endT s kd p=v∧k (.ret (intV v)) (tK ns root s++X)
theorem tof8_ok:COk 38 cTOf:=by
 rintro args K k ⟨ns,root,s,p,v,X,rfl,rfl,hn,rfl,hk⟩
 refine frameZ (K0:=tK ns root s) g0_ok 19 rfl tK_cl fun Q hr=>?_
 conv=>whnf
 refine loop_up (ι:=Nat) [0,1] (fun j=>[(5,intV j)]) (fun _=>[]) (fun j=>j≤s.n∧∀ i,i<j→placeP s.f p i=false) (fun j=>s.n - j) 0 ⟨AV.le_refl _,trivial⟩ trivial ⟨Nat.zero_le _,fun i hi=>absurd hi (Nat.not_lt_zero _)⟩ ?_
 rintro Y hle i ⟨hi,he⟩ ih
 conv=>whnf
 refine two_dec (fun h=>?_) (fun h=>?_)
 ·have h':(i:Int)<(s.n:Int):=h
  have h:i<s.n:=by omega
  have hw1:=wzz (i:=i) (by omega)
  conv=>whnf
  refine Chk.mk ⟨by omega,h',rfl⟩ ?_
  conv=>whnf
  refine two_eq (fun h2=>?_) (fun h2=>?_)
  ·have h2:(s.f i).k=4:=h2
   conv=>whnf
   refine Chk.mk ⟨by omega,h',rfl⟩ ?_
   conv=>whnf
   refine two_eq (fun h3=>?_) (fun h3=>?_)
   ·have h3:(s.f i).pl=p:=h3
    have hp:(placeP s.f p) i=true:=by simp only [kindP,placeP,h2,h3,beq_self_eq_true,Bool.true_and]
    rw [ofT,endS_at h hp he] at hk
    conv=>whnf
    exact hr _ _ _ (tK ns root s) _ (Wk1.refl _ _ _) rfl rfl tK_cl hk
   ·have h3:(s.f i).pl≠p:=h3
    have hp:(placeP s.f p) i=false:=by simp only [kindP,placeP,beq_eq_false_iff_ne.2 h3,Bool.and_false]
    conv=>whnf
    refine hle _ _ (Le.env ?_ ?_) (ih (i+1) (by omega) ⟨by omega,fun j hj=>(Nat.lt_succ_iff_lt_or_eq.1 hj).elim (he j) fun e=>e▸hp⟩)
    ·skip
     repeat' (first|exact trivial|((conv=>whnf);first|exact trivial|refine⟨AV.le_refl _,?_⟩|refine⟨ABlk.le_refl _,?_⟩|(refine⟨AV.le_of_eq ?_,?_⟩;focus ((first|exact congrArg intV hw1|fail);done))|(refine⟨ABlk.le_of_eq ?_,?_⟩;focus ((first|exact congrArg intV hw1|fail);done))|fail)|fail)
    ·skip
     repeat' (first|exact trivial|((conv=>whnf);first|exact trivial|refine⟨AV.le_refl _,?_⟩|refine⟨ABlk.le_refl _,?_⟩|fail)|fail)
  ·have h2:(s.f i).k≠4:=h2
   have hp:(placeP s.f p) i=false:=by simp only [kindP,placeP,beq_eq_false_iff_ne.2 h2,Bool.false_and]
   conv=>whnf
   refine hle _ _ (Le.env ?_ ?_) (ih (i+1) (by omega) ⟨by omega,fun j hj=>(Nat.lt_succ_iff_lt_or_eq.1 hj).elim (he j) fun e=>e▸hp⟩)
   ·skip
    repeat' (first|exact trivial|((conv=>whnf);first|exact trivial|refine⟨AV.le_refl _,?_⟩|refine⟨ABlk.le_refl _,?_⟩|(refine⟨AV.le_of_eq ?_,?_⟩;focus ((first|exact congrArg intV hw1|fail);done))|(refine⟨ABlk.le_of_eq ?_,?_⟩;focus ((first|exact congrArg intV hw1|fail);done))|fail)|fail)
   ·skip
    repeat' (first|exact trivial|((conv=>whnf);first|exact trivial|refine⟨AV.le_refl _,?_⟩|refine⟨ABlk.le_refl _,?_⟩|fail)|fail)
 ·have h':¬ (i:Int)<(s.n:Int):=h
  obtain rfl:i=s.n:=by omega
  rw [ofT,endS_no he] at hk
  conv=>whnf
  exact hr _ _ _ (tK ns root s) _ (Wk1.refl _ _ _) rfl rfl tK_cl hk
theorem tend8_ok:COk 34 cTEnd:=by
 rintro args K k ⟨ns,root,s,kd,p,v,X,rfl,rfl,hn,rfl,hk⟩
 refine frameZ (K0:=tK ns root s) g0_ok 19 rfl tK_cl fun Q hr=>?_
 conv=>whnf
 refine loop_up (ι:=Nat) [0,1,2] (fun j=>[(7,intV j)]) (fun _=>[]) (fun j=>j≤s.n∧∀ i,i<j→kindP s.f kd p i=false) (fun j=>s.n - j) 0 ⟨AV.le_refl _,trivial⟩ trivial ⟨Nat.zero_le _,fun i hi=>absurd hi (Nat.not_lt_zero _)⟩ ?_
 rintro Y hle i ⟨hi,he⟩ ih
 conv=>whnf
 refine two_dec (fun h=>?_) (fun h=>?_)
 ·have h':(i:Int)<(s.n:Int):=h
  have h:i<s.n:=by omega
  have hw1:=wzz (i:=i) (by omega)
  conv=>whnf
  refine Chk.mk ⟨by omega,h',rfl⟩ ?_
  conv=>whnf
  refine two_eq (fun h2=>?_) (fun h2=>?_)
  ·have h2:(s.f i).k=kd:=h2
   conv=>whnf
   refine Chk.mk ⟨by omega,h',rfl⟩ ?_
   conv=>whnf
   refine two_eq (fun h3=>?_) (fun h3=>?_)
   ·have h3:(s.f i).pr=p:=h3
    have hp:(kindP s.f kd p) i=true:=by simp only [kindP,placeP,h2,h3,beq_self_eq_true,Bool.true_and]
    rw [endT,endS_at h hp he] at hk
    conv=>whnf
    exact hr _ _ _ (tK ns root s) _ (Wk1.refl _ _ _) rfl rfl tK_cl hk
   ·have h3:(s.f i).pr≠p:=h3
    have hp:(kindP s.f kd p) i=false:=by simp only [kindP,placeP,beq_eq_false_iff_ne.2 h3,Bool.and_false]
    conv=>whnf
    refine hle _ _ (Le.env ?_ ?_) (ih (i+1) (by omega) ⟨by omega,fun j hj=>(Nat.lt_succ_iff_lt_or_eq.1 hj).elim (he j) fun e=>e▸hp⟩)
    ·skip
     repeat' (first|exact trivial|((conv=>whnf);first|exact trivial|refine⟨AV.le_refl _,?_⟩|refine⟨ABlk.le_refl _,?_⟩|(refine⟨AV.le_of_eq ?_,?_⟩;focus ((first|exact congrArg intV hw1|fail);done))|(refine⟨ABlk.le_of_eq ?_,?_⟩;focus ((first|exact congrArg intV hw1|fail);done))|fail)|fail)
    ·skip
     repeat' (first|exact trivial|((conv=>whnf);first|exact trivial|refine⟨AV.le_refl _,?_⟩|refine⟨ABlk.le_refl _,?_⟩|fail)|fail)
  ·have h2:(s.f i).k≠kd:=h2
   have hp:(kindP s.f kd p) i=false:=by simp only [kindP,placeP,beq_eq_false_iff_ne.2 h2,Bool.false_and]
   conv=>whnf
   refine hle _ _ (Le.env ?_ ?_) (ih (i+1) (by omega) ⟨by omega,fun j hj=>(Nat.lt_succ_iff_lt_or_eq.1 hj).elim (he j) fun e=>e▸hp⟩)
   ·skip
    repeat' (first|exact trivial|((conv=>whnf);first|exact trivial|refine⟨AV.le_refl _,?_⟩|refine⟨ABlk.le_refl _,?_⟩|(refine⟨AV.le_of_eq ?_,?_⟩;focus ((first|exact congrArg intV hw1|fail);done))|(refine⟨ABlk.le_of_eq ?_,?_⟩;focus ((first|exact congrArg intV hw1|fail);done))|fail)|fail)
   ·skip
    repeat' (first|exact trivial|((conv=>whnf);first|exact trivial|refine⟨AV.le_refl _,?_⟩|refine⟨ABlk.le_refl _,?_⟩|fail)|fail)
 ·have h':¬ (i:Int)<(s.n:Int):=h
  obtain rfl:i=s.n:=by omega
  rw [endT,endS_no he] at hk
  conv=>whnf
  exact hr _ _ _ (tK ns root s) _ (Wk1.refl _ _ _) rfl rfl tK_cl hk
def cTAfter:AC:=fun args K k=>∃ ns root s i l X,args=[rP,intV i]∧K=tK ns root s++X∧s.n<100000∧Clos s∧(∀ x,x<s.n→(s.f x).nx.length<1000)∧afterT s i=l∧k (.ret (intsV l)) (tK ns root s++X)
structure IL where
 i:Nat
 l:List Int
structure IB where
 k:Nat
 b:Bool
theorem any_take {p:Int→Bool} {l:List Int} {k:Nat} (hk:k<l.length):(l.take (k+1)).any p=((l.take k).any p || p (l.getD k 0)):=by
 have e:l.getD k 0=l[k]:=by simp [hk]
 rw [List.take_add_one,List.getElem?_eq_getElem hk,e]
 simp only [Option.toList_some,List.any_append,List.any_cons,List.any_nil,Bool.or_false]
theorem tafter8_ok:COk 40 cTAfter:=by
 rintro args K k ⟨ns,root,s,i,l,X,rfl,rfl,hn,hcl,hsh,rfl,hk⟩
 refine frameZ (K0:=tK ns root s) g0_ok 19 rfl tK_cl fun Q hr=>?_
 have hnil:¬ (0≤i∧i<s.n)→k (.ret (intsV [])) (tK ns root s++X):=fun h=>by
  rw [show afterT s i=[] by simp only [afterT,if_neg h]] at hk;exact hk
 conv=>whnf
 refine two_dec (fun h0=>?_) (fun h0=>?_)
 ·have h0:i<0:=h0
  conv=>whnf
  exact hr _ _ (intsV []) (tK ns root s) _ (Wk1.le (AV.nils_le _ _) (lesK.refl _)) rfl rfl tK_cl (hnil (by omega))
 have h0:¬ i<0:=h0
 conv=>whnf
 refine two_dec (fun h1=>?_) (fun h1=>?_)
 ·have h1:i≥(s.n:Int):=h1
  conv=>whnf
  exact hr _ _ (intsV []) (tK ns root s) _ (Wk1.le (AV.nils_le _ _) (lesK.refl _)) rfl rfl tK_cl (hnil (by omega))
 have h1:¬ i≥(s.n:Int):=h1
 obtain⟨x,rfl⟩:∃ x:Nat,i=(x:Int):=⟨i.toNat,by omega⟩
 have hx:x<s.n:=by omega
 have hx':(x:Int)<(s.n:Int):=by omega
 have hbx:=hsh x hx
 rw [← after8 hcl hx] at hk
 conv=>whnf
 refine loop_nil (ι:=IL) 3 1 (fun i=>pvs (rowF (fun i=>([]:List Int).getD i 0) i)) (fun c=>⟨[(0,rP),(1,intV x),(5,.slr 4 0 0 c.l.length),(6,intV c.i)],tK ns root s++[rowA c.l.length (fun i=>c.l.getD i 0)]⟩)
  (fun c=>c.i≤s.n∧c.l=filI (succB (s.f x)) c.i) (fun c=>s.n - c.i) ⟨0,[]⟩ (tK ns root s)
  rfl ⟨.inl (AV.le_refl _),.inl (AV.le_refl _),.inr ⟨rfl,rfl⟩,.inl (AV.le_refl _),trivial⟩ ⟨.inl (ABlk.le_refl _),.inl (ABlk.le_refl _),.inl (ABlk.le_refl _),.inl (ABlk.le_refl _),trivial⟩ rfl ⟨Nat.zero_le _,rfl⟩ ?_
 rintro Y hle ⟨i,l⟩ ⟨hi,hl⟩ ih
 simp only at hi hl
 have hll:l.length≤i:=by rw [hl];exact filI_len
 conv=>whnf
 refine two_dec (fun h=>?_) (fun h=>?_)
 ·have h':(i:Int)<(s.n:Int):=h
  have h:i<s.n:=by omega
  have hw1:=wzz (i:=i) (by omega)
  obtain⟨nx,hnx⟩:∃ nx,(s.f x).nx=nx:=⟨_,rfl⟩
  obtain⟨ra,hra⟩:∃ ra,(s.f x).ra=ra:=⟨_,rfl⟩
  have hsb:succB (s.f x) i=(ra==(i:Int) || nx.any (·==(i:Int))):=by rw [succB,hnx,hra]
  have hnl:(nx.length:Int)=((s.f x).nx.length:Int):=by rw [hnx]
  rw [hnx] at hbx
  conv=>whnf
  refine Chk.mk ⟨by omega,hx',rfl⟩ ?_
  conv=>whnf
  refine loop_up (ι:=IB) [0,1,5,6] (fun c=>[(7,.p (.bool c.b)),(8,intV c.k)]) (fun _=>[]) (fun c=>c.k≤nx.length∧c.b=(ra==(i:Int) || (nx.take c.k).any (·==(i:Int)))) (fun c=>nx.length - c.k) ⟨0,ra==(i:Int)⟩
   ⟨AV.le_of_eq (congrArg (fun v=>AV.p (.bool (v==(i:Int)))) hra),AV.le_refl _,trivial⟩ trivial ⟨Nat.zero_le _,by simp⟩ ?_
  rintro Z hlz ⟨k',b⟩ ⟨hkl,hb⟩ ihz
  simp only at hkl hb
  conv=>whnf
  refine Chk.mk ⟨by omega,hx',rfl⟩ ?_
  conv=>whnf
  refine two_dec (fun h2=>?_) (fun h2=>?_)
  ·have hk':(k':Int)<((s.f x).nx.length:Int):=h2
   have hkn:k'<nx.length:=by omega
   have hw2:=wzz (i:=k') (by omega)
   have hat:=any_take (p:=(·==(i:Int))) hkn
   cases b with
   | true =>
    conv=>whnf
    refine hlz _ _ (Le.env ?_ ?_) (ihz ⟨k'+1,true⟩ (by show _ - (k'+1)<_ - k';omega) ⟨hkn,by
     show true=_
     rw [hat]
     cases hr1:ra==(i:Int) with
     | true=>rfl
     | false=>rw [hr1,Bool.false_or] at hb;rw [← hb];rfl⟩)
    ·skip
     repeat' (first|exact trivial|((conv=>whnf);first|exact trivial|refine⟨AV.le_refl _,?_⟩|refine⟨ABlk.le_refl _,?_⟩|(refine⟨AV.le_of_eq ?_,?_⟩;focus ((first|exact congrArg intV hw2|fail);done))|(refine⟨ABlk.le_of_eq ?_,?_⟩;focus ((first|exact congrArg intV hw2|fail);done))|fail)|fail)
    ·skip
     repeat' (first|exact trivial|((conv=>whnf);first|exact trivial|refine⟨AV.le_refl _,?_⟩|refine⟨ABlk.le_refl _,?_⟩|fail)|fail)
   | false =>
    have hv:(s.f x).nx.getD k' 0=nx.getD k' 0:=by rw [hnx]
    conv=>whnf
    refine Chk.mk ⟨by omega,hx',rfl⟩ ?_
    conv=>whnf
    refine Chk.mk ⟨by omega,hk',rfl⟩ ?_
    conv=>whnf
    refine hlz _ _ (Le.env ?_ ?_) (ihz ⟨k'+1,nx.getD k' 0==(i:Int)⟩ (by show _ - (k'+1)<_ - k';omega) ⟨hkn,by
     show _=_
     rw [hat,← Bool.or_assoc,← hb];rfl⟩)
    ·skip
     repeat' (first|exact trivial|((conv=>whnf);first|exact trivial|refine⟨AV.le_refl _,?_⟩|refine⟨ABlk.le_refl _,?_⟩|(refine⟨AV.le_of_eq ?_,?_⟩;focus ((first|exact congrArg intV hw2|exact congrArg (fun v=>AV.p (.bool (v==(i:Int)))) hv|fail);done))|(refine⟨ABlk.le_of_eq ?_,?_⟩;focus ((first|exact congrArg intV hw2|exact congrArg (fun v=>AV.p (.bool (v==(i:Int)))) hv|fail);done))|fail)|fail)
    ·skip
     repeat' (first|exact trivial|((conv=>whnf);first|exact trivial|refine⟨AV.le_refl _,?_⟩|refine⟨ABlk.le_refl _,?_⟩|fail)|fail)
  ·have h2:k'=nx.length:=by have h2:¬ (k':Int)<((s.f x).nx.length:Int):=h2;omega
   subst h2
   rw [List.take_length,← hsb] at hb
   cases b with
   | true =>
    have hl2:l++[(i:Int)]=filI (succB (s.f x)) (i+1):=by simp only [filI];rw [← hb,hl]
    conv=>whnf
    refine Chk.mk ⟨rfl,rfl,rfl,allLt_ok ⟨trivial,rfl⟩⟩ ?_
    conv=>whnf
    refine Chk.mk ⟨rfl,rfl,rfl,rfl,(by show (l.length+1)*8≤140737488355328;omega),(by show l.length+1≤9223372036854775807;omega)⟩ ?_
    conv=>whnf
    refine hle _ _ (Le.cutEnv 5 rfl rfl ⟨rfl,rfl,rfl,rfl,psR_cl rfl,trivial⟩ ?_ ?_) (ih ⟨i+1,l++[(i:Int)]⟩ (by show _ - (i+1)<_ - i;omega) ⟨h,hl2⟩)
    ·skip
     repeat' (first|exact trivial|((conv=>whnf);first|exact trivial|refine⟨AV.le_refl _,?_⟩|refine⟨ABlk.le_refl _,?_⟩|(refine⟨AV.le_of_eq ?_,?_⟩;focus ((first|exact congrArg intV hw1|exact congrArg (fun n=>AV.slr 4 0 0 n) (show l.length+1=(l++[(i:Int)]).length by simp)|fail);done))|(refine⟨ABlk.le_of_eq ?_,?_⟩;focus ((first|exact congrArg intV hw1|exact congrArg (fun n=>AV.slr 4 0 0 n) (show l.length+1=(l++[(i:Int)]).length by simp)|fail);done))|fail)|fail)
    ·skip
     iterate 4 ((conv=>whnf);refine⟨ABlk.le_refl _,?_⟩)
     (conv=>whnf);refine⟨?_,?_⟩
     ·show ABlk.le _ (rowA (l++[(i:Int)]).length _)
      rw [show (l++[(i:Int)]).length=l.length+1 by simp]
      exact ps_snoc
     ·exact trivial
   | false =>
    have hl2:l=filI (succB (s.f x)) (i+1):=by simp only [filI];rw [← hb,hl,List.append_nil]
    conv=>whnf
    refine hle _ _ (Le.cutEnv 5 rfl rfl ⟨rfl,rfl,rfl,rfl,fun _ _=>rfl,trivial⟩ ?_ ?_) (ih ⟨i+1,l⟩ (by show _ - (i+1)<_ - i;omega) ⟨h,hl2⟩)
    ·skip
     repeat' (first|exact trivial|((conv=>whnf);first|exact trivial|refine⟨AV.le_refl _,?_⟩|refine⟨ABlk.le_refl _,?_⟩|(refine⟨AV.le_of_eq ?_,?_⟩;focus ((first|exact congrArg intV hw1|fail);done))|(refine⟨ABlk.le_of_eq ?_,?_⟩;focus ((first|exact congrArg intV hw1|fail);done))|fail)|fail)
    ·skip
     repeat' (first|exact trivial|((conv=>whnf);first|exact trivial|refine⟨AV.le_refl _,?_⟩|refine⟨ABlk.le_refl _,?_⟩|fail)|fail)
 ·obtain rfl:i=s.n:=by have h:¬ (i:Int)<(s.n:Int):=h;omega
  rw [← hl] at hk
  conv=>whnf
  exact hr _ _ (intsV l) (tK ns root s) _ (Wk1.freeze (r:=4) rfl (kidF l) (fun _ _=>rfl)) rfl rfl tK_cl hk
end Go.Proofs.YtojjkleplnijaaaGreatDoor
