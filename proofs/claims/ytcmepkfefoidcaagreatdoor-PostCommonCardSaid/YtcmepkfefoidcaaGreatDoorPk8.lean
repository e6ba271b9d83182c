/-
  On the way to what follows: part 8 of 0.
-/
import Derived.Laws.Bits64b
import Derived.Lib.TrailingZeros
import Derived.Laws.BitsAllLaws
import Derived.Shelf.Spec.TrailingZeros
import Derived.Test.YtcmepkfefoidcaaGreatDoorPk4
import Derived.Test.YtcmepkfefoidcaaGreatDoorPk5
import Derived.Test.YtcmepkfefoidcaaGreatDoorPk6
import Derived.Test.YtcmepkfefoidcaaGreatDoorPk7
set_option linter.unusedVariables false
set_option linter.unusedSimpArgs false
namespace Go.AE
theorem Le.fzx {kb:Nat} {t:List (Nat×AV)} {K K':List ABlk} {r ty sz n:Nat} {f:Nat→List AV} (g:Nat→List PV) (hr:nth K r=some (.arr ty sz 0 n f)) (hg:∀ i,i<n→f i=pvs (g i))
  (hK:fsxK r sz n g (setN K r .dead) K'):Le kb ⟨t,K⟩ ⟨t,K'⟩:=fun we me hk w m tmps hT hS hE=>by
 obtain⟨m',h1,h2,h3⟩:=fzx_core hS hr hg hK
 exact⟨m',hT.trans h1,h2,fun d=>h3 _ _ _ (.inl (AV.le_refl _)) (hE d),.tr h1 h2⟩
theorem pvs_map (l:List PV):pvs l=l.map AV.p:=by
 induction l with
 | nil=>rfl
 | cons a l ih=>simp only [pvs,ih,List.map_cons]
theorem Fz.row {K:List ABlk} {r ty sz n:Nat} {g:Nat→List PV} (hr:nth K r=some (.arr ty sz 0 n (fun i=>pvs (g i)))):Fz K (.slr r 0 0 n) (.sl sz n g):=by
 refine .sl r ty sz 0 n 0 n _ g hr (Nat.zero_add _) (fun i hi=>?_) (fun i hi j hj hj'=>?_)
 ·simp only [pvs_map,List.length_map,Nat.zero_add]
 ·simp only [pvs_map,List.getElem_map,Nat.zero_add]
  exact .p _
theorem Le.fz7 {kb:Nat} {t:List (Nat×AV)} {b0 b1 b2 b3 b4 b5 b5' b6:ABlk} {Y:List ABlk} {r ty sz n:Nat} {f:Nat→List AV} (g:Nat→List PV) (hr:nth Y r=some (.arr ty sz 0 n f)) (hg:∀ i,i<n→f i=pvs (g i))
  (h5:fsxB (r+7) sz n g b5 b5'):Le kb ⟨t,b0::b1::b2::b3::b4::b5::b6::Y⟩ ⟨t,b0::b1::b2::b3::b4::b5'::b6::setN Y r .dead⟩ :=
 Le.fzx (r:=r+7) g hr hg ⟨.inl (.inl (ABlk.le_refl _)),.inl (.inl (ABlk.le_refl _)),.inl (.inl (ABlk.le_refl _)),.inl (.inl (ABlk.le_refl _)),.inl (.inl (ABlk.le_refl _)),h5,.inl (.inl (ABlk.le_refl _)),fsxK.refl _ _ _ _ _⟩
end Go.AE
namespace Go.Proofs.YtcmepkfefoidcaaGreatDoor
open Go.AE Go.Ru
set_option maxRecDepth 100000
set_option maxHeartbeats 2000000
def eFbl:AC:=fun args K k=>∃ (ns:List Nd) (root:Int) (n:Nat) (G:Nat→GN) (of:Int→Option Nat) (ex:Int) (np:Nat) (pf:Nat→Int) (p:Nat) (fo h:Int) (X:List ABlk) (ex' p' fo' h':Int) (b:Int) (G':Nat→GN),
 args=[lpV,intV p',intV fo',intV h']∧K=stK ns root n G of ex' np pf++X∧p'=(p:Int)∧fo'=fo∧h'=h∧ex'=ex∧RightT ns root∧p<ns.length∧(nd ns p).k=6∧OfOk ns of n p∧flBlock ns of ex 4000 p fo h G=(b,G') ∧
 k (.ret (intV b)) (stK ns root n G' of ex np pf++X)
theorem eFbl_ok:COk 49 eFbl:=by
 rintro args K k ⟨ns,root,n,G,of,ex,np,pf,p,fo,h,X,_,_,_,_,b,G',h1,h2,rfl,rfl,rfl,rfl,rt,h3,h4,h5,h6,h7⟩
 have:=rt.len
 exact fbl_ok (fst_ok 4000) args K k ⟨ns,root,n,G,of,_,np,pf,p,_,_,X,h1,h2,rt,h3,by omega,h4,h5,by rw [h6];exact h7⟩
def endsJ (n:Nat) (f:Nat→GN) (p num:Int):Nat→Nat→GN
 | 0=>f
 | 1=>addG n f ⟨1,p,num,[],-1⟩
 | 2=>addG (n+1) (addG n f ⟨1,p,num,[],-1⟩) ⟨2,p,num,[],-1⟩
 | _=>endsS n f p num
theorem gn_snoc {n:Nat} {G:Nat→GN} {x:GN} {f:Nat→List AV} (hf:f 0=pvs (gnF (fun _=>x) 0)) :
  (ABlk.arr 44 5 0 (n+1) (catF n (fun i=>pvs (gnF G i)) f)).le (gnA (n+1) (addG n G x)):=by
 refine ABlk.arr_eq rfl fun i hi=>?_
 by_cases h:i<n
 ·rw [catF_lt h]
  simp [gnF,addG,show i≠n by omega]
 ·obtain rfl:i=n:=by omega
  rw [catF_ge (Nat.le_refl _),Nat.sub_self,hf]
  simp [gnF,addG]
theorem ps_snoc {l:List Int} {x:Int}:(ABlk.arr 3 1 0 (l.length+1) (catF l.length (fun i=>pvs (rowF (fun i=>l.getD i 0) i)) fun i=>takeN (dropN [intV x] (i*1)) 1)).le (rowA (l.length+1) (fun i=>(l++[x]).getD i 0)):=by
 refine ABlk.arr_eq rfl fun i hi=>?_
 by_cases h:i<l.length
 ·rw [catF_lt h]
  simp [rowF,List.getD_eq_getElem?_getD,List.getElem?_append_left h]
 ·obtain rfl:i=l.length:=by omega
  rw [catF_ge (Nat.le_refl _),Nat.sub_self]
  simp [rowF,pvs,intV,takeN,dropN]
theorem nd_cl {n m:Nat} {G:Nat→GN} {f:Nat→List AV} {ty sz:Nat} (hf:AV.cls m (f 0)=true):(ABlk.arr ty sz 0 (n+1) (catF n (fun i=>pvs (gnF G i)) f)).cl m:=fun i hi=>by
 by_cases h:i<n
 ·rw [catF_lt h];rfl
 ·obtain rfl:i=n:=by omega
  rw [catF_ge (Nat.le_refl _),Nat.sub_self];exact hf
theorem row3_cl {m:Nat} {a b c:Int}:∀ i,i<3→AV.cls m (takeN (dropN [AV.p (.int .i64 a),AV.p (.int .i64 b),AV.p (.int .i64 c)] (i*1)) 1)=true:=fun i hi=>by
 rcases (by omega:i=0∨i=1∨i=2) with rfl|rfl|rfl<;>rfl
theorem row1_cl {m:Nat} {a:Int}:∀ i,i<1→AV.cls m (takeN (dropN [AV.p (.int .i64 a)] (i*1)) 1)=true:=fun i hi=>by
 obtain rfl:i=0:=by omega
 rfl
theorem ofG_ins {of:Int→Option Nat} {i:Int} {n:Nat} {p:Nat} (h:i=(p:Int)):insM (ofG of) (.i .i64 i) (intV (n:Int))=ofG (insO of p n):=by
 subst h
 funext κ
 cases κ with
 | s l=>simp [insM,ofG]
 | i q o =>
  unfold insM ofG insO
  by_cases hq:q=.i64
  ·subst hq
   by_cases ho:o=(p:Int)
   ·subst ho;simp
   ·have:(MK.i .i64 o)≠MK.i .i64 (p:Int):=fun h=>ho (by injection h)
    simp only [this,ho,if_false]
  ·have:(MK.i q o)≠MK.i .i64 (p:Int):=fun h=>hq (by injection h)
   simp only [this,hq,if_false]
theorem gn_upd1 {G:Nat→GN} {j a1:Nat} {c1:List AV} {v:AV} (h1:a1=j) (hc1:c1=[v]) (i:Nat) :
  updF (fun i=>pvs (gnF G i)) a1 (putCells ((fun i=>pvs (gnF G i)) a1) (0+3) c1) i =
   if i=j then [intV (G j).k,intV (G j).pl,intV (G j).pr,v,intV (G j).ra] else pvs (gnF G i):=by
 subst h1 hc1
 simp only [updF_eq]
 split<;>rfl
theorem ofG0:ABlk.mp (.int .i64) (fun _=>none) []=.mp (.int .i64) (ofG fun _=>none) []:=by
 congr 1
 funext κ
 cases κ<;>simp [ofG]
theorem fzv_graph {K:List ABlk} {s:BSt} (h1:nth K 5=some (gnA s.n s.f)) (h2:nth K 6=some (rowA s.ps.length (fun i=>s.ps.getD i 0))) :
  FzV K (.tup [.agg [.slr 5 0 0 s.n,.slr 6 0 0 s.ps.length],intV 0]) (.tup [graphV s,intV 0]):=by
 refine .tup _ _ rfl fun j hj hj'=>?_
 rcases j with _|_|j
 ·refine .agg _ _ rfl fun j hj hj'=>?_
  rcases j with _|_|j
  ·exact .p _ _ (Fz.row h1)
  ·exact .p _ _ (Fz.row (g:=kidF s.ps) h2)
  ·simp at hj;omega
 ·exact .p _ _ (.p _)
 ·simp at hj;omega
def gBuild:AG:=gput 47 eCheck (gput 49 eFbl g0)
theorem gBuild_ok:GOk Tryz.prog gBuild:=gput_ok eCheck_ok (gput_ok eFbl_ok g0_ok)
def graph0:AV:=.agg [.p .nils,.p .nils]
def eBuild:AC:=fun args K k=>∃ ns root a e s,args=[treeV ns root]∧Tame ns∧checkTree ns root=(a,e)∧buildS ns root=s∧(e≠0→k (.ret (.tup [graph0,intV 1])) K)∧(e=0→k (.ret (.tup [graphV s,intV 0])) K)
structure BC where
 s:BSt
 j:Nat
 ex:Int
structure B1 where
 i:Nat
 s:SS
theorem build_okW:COk 21 eBuild:=by
 rintro args K k ⟨ns,root,a,e,s,rfl,ta,hc,hs,hk1,hk0⟩
 by_cases he:e=0
 case neg =>
  refine frame0P gBuild_ok 19 rfl fun Q hr=>?_
  conv=>whnf
  refine⟨ns,root,a,e,rfl,ta,hc,?_⟩
  conv=>whnf
  refine two_ne (fun _=>?_) (fun h=>absurd h he)
  conv=>whnf
  exact hr _ _ rfl (hk1 he)
 subst he
 have hk:=hk0 rfl
 clear hk0 hk1
 have rt:=right_of (check_right hc)
 have hlen:=rt.len
 have hrt:=rt.rt
 have hpos:=rt.pos
 refine frame0W gBuild_ok 19 rfl fun Q hr=>?_
 have hksl:(nd ns root.toNat).kids.length<ns.length:=by have:=rt.many root.toNat (by omega);omega
 conv=>whnf
 refine⟨ns,root,a,0,rfl,ta,hc,?_⟩
 conv=>whnf
 refine⟨⟨by omega,by omega,rfl⟩,?_⟩
 conv=>whnf
 refine LoopW.le (Le.nilRow (t':=[(1,.ptr 0 0 1 0 0),(2,.ptr 1 0 1 0 0),(3,intV 0),(6,.ptr 2 0 1 0 0),(7,lpV),(35,intsV (nd ns root.toNat).kids),(36,intV (nd ns root.toNat).kids.length),(8,intV 0),(37,intV 0)])
  (K':=[tbox ns root,.box 25 [.p .nils,.p .nils],.box 25 [.slr 5 0 0 0,.p .nils],.mp (.int .i64) (ofG fun _=>none) [],layB ns root 0]) 44 5 (fun i=>pvs (gnF bst0.f i)) rfl
  ⟨.inl (AV.le_refl _),.inl (AV.le_refl _),.inl (AV.le_refl _),.inl (AV.le_refl _),.inl (AV.le_refl _),.inl (AV.le_refl _),.inl (AV.le_refl _),.inl (AV.le_refl _),.inl (AV.le_refl _),trivial⟩
  ⟨.inl (ABlk.le_refl _),.inl (ABlk.le_refl _),.inr ⟨_,_,_,rfl,rfl,.inr ⟨rfl,rfl⟩,.inl (AV.le_refl _),trivial⟩,.inl (ABlk.le_of_eq ofG0),.inl (ABlk.le_refl _),trivial⟩) ?_
 refine loop_nil (ι:=BC) 3 1 (fun i=>pvs (rowF (fun i=>bst0.ps.getD i 0) i)) (fun c=>⟨[(1,.ptr 0 0 1 0 0),(2,.ptr 1 0 1 0 0),(3,intV 0),(6,.ptr 2 0 1 0 0),(7,lpV),(35,intsV (nd ns root.toNat).kids),(36,intV (nd ns root.toNat).kids.length),(8,intV c.s.fst),(37,intV c.j)],
   stK ns root c.s.n c.s.f c.s.of c.ex c.s.ps.length (fun i=>c.s.ps.getD i 0)⟩)
  (fun c=>c.j≤(nd ns root.toNat).kids.length∧BPre ns root ((nd ns root.toNat).kids.take c.j) ((nd ns root.toNat).kids.drop c.j) c.s∧buildR ns ((nd ns root.toNat).kids.drop c.j) c.s=s∧c.s.ps.length≤c.j) (fun c=>(nd ns root.toNat).kids.length - c.j) ⟨bst0,0,0⟩
  [tbox ns root,.box 25 [.p .nils,.p .nils],grB 0 0,.mp (.int .i64) (ofG fun _=>none) [],layB ns root 0,gnA 0 bst0.f]
  rfl ⟨.inl (AV.le_refl _),.inl (AV.le_refl _),.inl (AV.le_refl _),.inl (AV.le_refl _),.inl (AV.le_refl _),.inl (AV.le_refl _),.inl (AV.le_refl _),.inl (AV.le_refl _),.inl (AV.le_refl _),trivial⟩
  ⟨.inl (ABlk.le_refl _),.inl (ABlk.le_refl _),.inr ⟨_,_,_,rfl,rfl,.inl (AV.le_refl _),.inr ⟨rfl,rfl⟩,trivial⟩,.inl (ABlk.le_refl _),.inl (ABlk.le_refl _),.inl (ABlk.le_refl _),trivial⟩
  rfl ⟨Nat.zero_le _,bpre0 rt,hs,Nat.le_refl _⟩ ?_
 rintro Y hle ⟨s0,j,ex⟩ ⟨hj,hpre,hbd,hpsl⟩ ih
 simp only at hj hpre hbd hpsl
 conv=>whnf
 refine two_dec (fun h=>?_) (fun h=>?_)
 ·have h:j<(nd ns root.toNat).kids.length:=by have h:(j:Int)<((nd ns root.toNat).kids.length:Int):=h;omega
  have hw1:=wzz (i:=j) (by omega)
  rw [List.drop_eq_getElem_cons h] at hbd hpre
  have e1:(nd ns root.toNat).kids.getD j 0=(nd ns root.toNat).kids[j]:=by simp [h]
  rw [← e1] at hbd hpre
  obtain⟨q,hq⟩:∃ q,(nd ns root.toNat).kids.getD j 0=q:=⟨_,rfl⟩
  rw [hq] at hbd hpre
  rw [buildR_cons] at hbd
  obtain⟨sh,hq0,_⟩:=step_h rt hpre.hd hpre.ahead hpre.left
  obtain⟨q,rfl⟩:∃ x:Nat,q=(x:Int):=⟨q.toNat,by omega⟩
  have hnext:=hpre.step rt
  rw [Int.toNat_natCast] at sh hbd hnext
  have htk:(nd ns root.toNat).kids.take j++[(q:Int)]=(nd ns root.toNat).kids.take (j+1):=by
   rw [List.take_add_one,← hq,List.getD_eq_getElem?_getD,List.getElem?_eq_getElem h];rfl
  rw [htk] at hnext
  have hql:q<ns.length:=by have:=sh.lt;omega
  have hlo:=sh.lo
  obtain⟨e,hinv⟩:=hpre.inv
  have hnum:=hinv.num
  have hcl:=cntB_le (stP' ns) s0.fst
  have hqv:((nd ns root.toNat).kids.getD ((j:Int)).toNat 0)=(q:Int):=hq
  have hb0:0≤(nd ns root.toNat).kids.getD ((j:Int)).toNat 0:=by rw [hqv];omega
  have hb1:(nd ns root.toNat).kids.getD ((j:Int)).toNat 0<(ns.length:Int):=by rw [hqv];omega
  have hwq:IntKind.i64.wrap ((nd ns root.toNat).kids.getD ((j:Int)).toNat 0+1)=((q+1:Nat):Int):=by rw [hqv,w64 ⟨by omega,by omega⟩];omega
  conv=>whnf
  refine Chk.mk ⟨by omega,by omega,rfl⟩ ?_
  conv=>whnf
  refine Chk.mk ⟨hb0,hb1,rfl⟩ ?_
  conv=>whnf
  refine two_eq (fun h3=>?_) (fun h3=>?_)
  ·have h3:(nd ns q).k=3:=by
    have h3:(nd ns ((nd ns root.toNat).kids.getD ((j:Int)).toNat 0).toNat).k=3:=h3
    rw [hqv] at h3;exact h3
   conv=>whnf
   refine Chk.mk ⟨rfl,rfl,rfl,allLt_ok ⟨trivial,rfl⟩⟩ ?_
   conv=>whnf
   refine Chk.mk ⟨rfl,rfl,rfl,rfl,(by show (s0.ps.length+1)*8≤140737488355328;omega),(by show s0.ps.length+1≤9223372036854775807;omega)⟩ ?_
   conv=>whnf
   have hps:(ABlk.arr 3 1 0 (s0.ps.length+1) (catF s0.ps.length (fun i=>pvs (rowF (fun i=>s0.ps.getD i 0) i)) fun i=>takeN (dropN [intV ((nd ns root.toNat).kids.getD ((j:Int)).toNat 0)] (i*1)) 1)).le (rowA (s0.ps.length+1) (fun i=>(s0.ps++[(q:Int)]).getD i 0)):=by
    rw [hqv];exact ps_snoc
   refine loop_up (ι:=Nat) [1,2,3,6,7,8,10,11,35,36,37,57,58] (fun i=>[(59,intV i)]) (fun i=>[(2,grB (s0.n+i) (s0.ps.length+1)),(5,gnA (s0.n+i) (endsJ s0.n s0.f (q:Int) (s0.ps.length:Int) i)),(6,rowA (s0.ps.length+1) (fun i=>(s0.ps++[(q:Int)]).getD i 0))])
    (fun i=>i≤3) (fun i=>3 - i) 0 ⟨AV.le_refl _,trivial⟩ ⟨upLe1 rfl (ABlk.le_refl _),upLe1 rfl (ABlk.le_refl _),upLe1 rfl hps,trivial⟩ (by decide) ?_
   rintro Z hlz i hi ihz
   have hi:i=0∨i=1∨i=2∨i=3:=by omega
   rcases hi with rfl|rfl|rfl|rfl
   ·skip
    conv=>whnf
    refine Chk.mk ⟨rfl,rfl,by decide,by decide,rfl⟩ ?_
    conv=>whnf
    refine Chk.mk ⟨rfl,rfl⟩ ?_
    conv=>whnf
    refine Chk.mk ⟨rfl,rfl,rfl,allLt_ok ⟨trivial,rfl⟩⟩ ?_
    conv=>whnf
    refine Chk.mk ⟨rfl,rfl,rfl,rfl,(by show (s0.n+0+1)*56≤140737488355328;omega),(by show s0.n+0+1≤9223372036854775807;omega)⟩ ?_
    conv=>whnf
    refine hlz _ _ (Le.cutEnv 9 rfl rfl ⟨rfl,rfl,rfl,ofG_cl,rfl,nd_cl rfl,fun _ _=>rfl,row1_cl,row3_cl,trivial⟩ ?_ ?_) (ihz 1 (by decide) (by decide))
    ·skip
     repeat' (first|exact trivial|((conv=>whnf);first|exact trivial|refine⟨AV.le_refl _,?_⟩|refine⟨ABlk.le_refl _,?_⟩|fail)|fail)
    ·skip
     iterate 5 ((conv=>whnf);refine⟨ABlk.le_refl _,?_⟩)
     (conv=>whnf);refine⟨gn_snoc (x:=⟨1,q,s0.ps.length,[],-1⟩) (congrArg (fun v=>[intV 1,intV v,intV (s0.ps.length:Int),.p .nils,intV (-1)]) hqv),?_⟩
     iterate 3 ((conv=>whnf);refine⟨ABlk.le_refl _,?_⟩)
     (conv=>whnf);exact trivial
   ·skip
    conv=>whnf
    refine Chk.mk ⟨rfl,rfl,by decide,by decide,rfl⟩ ?_
    conv=>whnf
    refine Chk.mk ⟨rfl,rfl⟩ ?_
    conv=>whnf
    refine Chk.mk ⟨rfl,rfl,rfl,allLt_ok ⟨trivial,rfl⟩⟩ ?_
    conv=>whnf
    refine Chk.mk ⟨rfl,rfl,rfl,rfl,(by show (s0.n+1+1)*56≤140737488355328;omega),(by show s0.n+1+1≤9223372036854775807;omega)⟩ ?_
    conv=>whnf
    refine hlz _ _ (Le.cutEnv 9 rfl rfl ⟨rfl,rfl,rfl,ofG_cl,rfl,nd_cl rfl,fun _ _=>rfl,row1_cl,row3_cl,trivial⟩ ?_ ?_) (ihz 2 (by decide) (by decide))
    ·skip
     repeat' (first|exact trivial|((conv=>whnf);first|exact trivial|refine⟨AV.le_refl _,?_⟩|refine⟨ABlk.le_refl _,?_⟩|fail)|fail)
    ·skip
     iterate 5 ((conv=>whnf);refine⟨ABlk.le_refl _,?_⟩)
     (conv=>whnf);refine⟨gn_snoc (x:=⟨2,q,s0.ps.length,[],-1⟩) (congrArg (fun v=>[intV 2,intV v,intV (s0.ps.length:Int),.p .nils,intV (-1)]) hqv),?_⟩
     iterate 3 ((conv=>whnf);refine⟨ABlk.le_refl _,?_⟩)
     (conv=>whnf);exact trivial
   ·skip
    conv=>whnf
    refine Chk.mk ⟨rfl,rfl,by decide,by decide,rfl⟩ ?_
    conv=>whnf
    refine Chk.mk ⟨rfl,rfl⟩ ?_
    conv=>whnf
    refine Chk.mk ⟨rfl,rfl,rfl,allLt_ok ⟨trivial,rfl⟩⟩ ?_
    conv=>whnf
    refine Chk.mk ⟨rfl,rfl,rfl,rfl,(by show (s0.n+2+1)*56≤140737488355328;omega),(by show s0.n+2+1≤9223372036854775807;omega)⟩ ?_
    conv=>whnf
    refine hlz _ _ (Le.cutEnv 9 rfl rfl ⟨rfl,rfl,rfl,ofG_cl,rfl,nd_cl rfl,fun _ _=>rfl,row1_cl,row3_cl,trivial⟩ ?_ ?_) (ihz 3 (by decide) (by decide))
    ·skip
     repeat' (first|exact trivial|((conv=>whnf);first|exact trivial|refine⟨AV.le_refl _,?_⟩|refine⟨ABlk.le_refl _,?_⟩|fail)|fail)
    ·skip
     iterate 5 ((conv=>whnf);refine⟨ABlk.le_refl _,?_⟩)
     (conv=>whnf);refine⟨gn_snoc (x:=⟨3,q,s0.ps.length,[],-1⟩) (congrArg (fun v=>[intV 3,intV v,intV (s0.ps.length:Int),.p .nils,intV (-1)]) hqv),?_⟩
     iterate 3 ((conv=>whnf);refine⟨ABlk.le_refl _,?_⟩)
     (conv=>whnf);exact trivial
   obtain⟨s1,hs1⟩:∃ s1,stepsS ns (s0.ps.length:Int) (q - s0.fst) s0.fst ⟨s0.n+3,endsS s0.n s0.f (q:Int) (s0.ps.length:Int),s0.of⟩=s1:=⟨_,rfl⟩
   conv=>whnf
   refine loop_up (ι:=B1) [1,2,3,6,7,8,10,11,14,35,36,37] (fun c=>[(15,intV c.i)]) (fun c=>[(2,grB c.s.n (s0.ps.length+1)),(3,.mp (.int .i64) (ofG c.s.of) []),(5,gnA c.s.n c.s.f)])
    (fun c=>s0.fst≤c.i∧c.i≤q∧stepsS ns (s0.ps.length:Int) (q - c.i) c.i c.s=s1∧c.s.n≤3+s0.n+c.i) (fun c=>q - c.i) ⟨s0.fst,⟨s0.n+3,endsS s0.n s0.f (q:Int) (s0.ps.length:Int),s0.of⟩⟩
    ⟨AV.le_refl _,trivial⟩ ⟨upLe1 rfl (ABlk.le_refl _),upLe1 rfl (ABlk.le_refl _),upLe1 rfl (ABlk.le_refl _),trivial⟩ ⟨Nat.le_refl _,hlo,hs1,by simp only;omega⟩ ?_
   rintro Z1 hlz1 ⟨i,t⟩ ⟨hi1,hi2,hst1,hn1⟩ ihz1
   simp only at hi1 hi2 hst1 hn1
   conv=>whnf
   refine two_dec (fun h4=>?_) (fun h4=>?_)
   ·have h4:i<q:=by
     have h4:(i:Int)<(nd ns root.toNat).kids.getD ((j:Int)).toNat 0:=h4
     rw [hqv] at h4;omega
    rw [show q - i=(q - (i+1))+1 by omega] at hst1
    simp only [stepsS] at hst1
    have hwi:=wzz (i:=i) (by omega)
    have hil:(i:Int)<(ns.length:Int):=by omega
    have hno:stB (nd ns i).k=false→stepsS ns (s0.ps.length:Int) (q - (i+1)) (i+1) t=s1:=fun e=>by rw [e] at hst1;exact hst1
    have hyes:stB (nd ns i).k=true→stepsS ns (s0.ps.length:Int) (q - (i+1)) (i+1) ⟨t.n+1,addG t.n t.f ⟨4,(i:Int),(s0.ps.length:Int),[],-1⟩,insO t.of i t.n⟩=s1:=fun e=>by rw [e] at hst1;exact hst1
    conv=>whnf
    refine Chk.mk ⟨Int.natCast_nonneg _,hil,rfl⟩ ?_
    conv=>whnf
    refine two_dec (fun h7=>?_) (fun h7=>?_)
    ·have h7:(nd ns i).k≥7:=h7
     conv=>whnf
     refine two_dec (fun h17=>?_) (fun h17=>?_)
     ·have h17:(nd ns i).k≤17:=h17
      have hst1:=hyes (stB_iff.2 ⟨h7,h17⟩)
      conv=>whnf
      refine Chk.mk ⟨rfl,rfl,rfl,allLt_ok ⟨trivial,rfl⟩⟩ ?_
      conv=>whnf
      refine Chk.mk ⟨rfl,rfl,rfl,rfl,(by show (t.n+1)*56≤140737488355328;omega),(by show t.n+1≤9223372036854775807;omega)⟩ ?_
      conv=>whnf
      refine hlz1 _ _ (Le.cutEnv 9 rfl rfl ⟨rfl,rfl,rfl,fun κ a h=>ofG_cl κ a ((congrFun (ofG_ins rfl) κ).symm.trans h),rfl,nd_cl rfl,fun _ _=>rfl,row1_cl,row3_cl,trivial⟩ ?_ ?_) (ihz1 ⟨i+1,⟨t.n+1,addG t.n t.f ⟨4,(i:Int),(s0.ps.length:Int),[],-1⟩,insO t.of i t.n⟩⟩ (by simp only;omega) ⟨by simp only;omega,by simp only;omega,hst1,by simp only;omega⟩)
      ·skip
       repeat' (first|exact trivial|((conv=>whnf);first|exact trivial|refine⟨AV.le_refl _,?_⟩|refine⟨ABlk.le_refl _,?_⟩|(refine⟨AV.le_of_eq ?_,?_⟩;focus ((first|exact congrArg intV hwi|fail);done))|(refine⟨ABlk.le_of_eq ?_,?_⟩;focus ((first|exact congrArg intV hwi|fail);done))|fail)|fail)
      ·skip
       iterate 3 ((conv=>whnf);refine⟨ABlk.le_refl _,?_⟩)
       (conv=>whnf);refine⟨ABlk.le_of_eq (congrArg (fun g=>ABlk.mp (.int .i64) g []) (ofG_ins rfl)),?_⟩
       iterate 1 ((conv=>whnf);refine⟨ABlk.le_refl _,?_⟩)
       (conv=>whnf);refine⟨gn_snoc (x:=⟨4,i,s0.ps.length,[],-1⟩) rfl,?_⟩
       iterate 3 ((conv=>whnf);refine⟨ABlk.le_refl _,?_⟩)
       (conv=>whnf);exact trivial
     ·have h17:¬ (nd ns i).k≤17:=h17
      have hst1:=hno (by simp [stB,h17])
      conv=>whnf
      refine hlz1 _ _ (Le.cutEnv 9 rfl rfl ⟨rfl,rfl,rfl,ofG_cl,rfl,fun _ _=>rfl,fun _ _=>rfl,row1_cl,row3_cl,trivial⟩ ?_ ?_) (ihz1 ⟨i+1,t⟩ (by simp only;omega) ⟨by simp only;omega,by simp only;omega,hst1,by simp only;omega⟩)
      ·skip
       repeat' (first|exact trivial|((conv=>whnf);first|exact trivial|refine⟨AV.le_refl _,?_⟩|refine⟨ABlk.le_refl _,?_⟩|(refine⟨AV.le_of_eq ?_,?_⟩;focus ((first|exact congrArg intV hwi|fail);done))|(refine⟨ABlk.le_of_eq ?_,?_⟩;focus ((first|exact congrArg intV hwi|fail);done))|fail)|fail)
      ·skip
       repeat' (first|exact trivial|((conv=>whnf);first|exact trivial|refine⟨AV.le_refl _,?_⟩|refine⟨ABlk.le_refl _,?_⟩|fail)|fail)
    ·have h7:¬ (nd ns i).k≥7:=h7
     have hst1:=hno (by simp [stB];omega)
     conv=>whnf
     refine hlz1 _ _ (Le.cutEnv 9 rfl rfl ⟨rfl,rfl,rfl,ofG_cl,rfl,fun _ _=>rfl,fun _ _=>rfl,row1_cl,row3_cl,trivial⟩ ?_ ?_) (ihz1 ⟨i+1,t⟩ (by simp only;omega) ⟨by simp only;omega,by simp only;omega,hst1,by simp only;omega⟩)
     ·skip
      repeat' (first|exact trivial|((conv=>whnf);first|exact trivial|refine⟨AV.le_refl _,?_⟩|refine⟨ABlk.le_refl _,?_⟩|(refine⟨AV.le_of_eq ?_,?_⟩;focus ((first|exact congrArg intV hwi|fail);done))|(refine⟨ABlk.le_of_eq ?_,?_⟩;focus ((first|exact congrArg intV hwi|fail);done))|fail)|fail)
     ·skip
      repeat' (first|exact trivial|((conv=>whnf);first|exact trivial|refine⟨AV.le_refl _,?_⟩|refine⟨ABlk.le_refl _,?_⟩|fail)|fail)
   ·have h4:q=i:=by
     have h4:¬ (i:Int)<(nd ns root.toNat).kids.getD ((j:Int)).toNat 0:=h4
     rw [hqv] at h4;omega
    subst h4
    rw [Nat.sub_self] at hst1
    simp only [stepsS] at hst1
    have hst1:=hst1.symm
    subst hst1
    obtain⟨l,b,hkids,hkb,_⟩:=rt.body hql h3
    obtain⟨b0,b1,b2⟩:=rt.kid q hql b (by rw [hkids];simp)
    have hkR:(ns.getD ((nd ns root.toNat).kids.getD ((j:Int)).toNat 0).toNat default).kids=l++[b]:=by rw [hqv];exact hkids
    have hll:l.length<4000:=by have:=rt.many q hql;rw [hkids] at this;simp at this;omega
    have hwl:IntKind.i64.wrap (((ns.getD ((nd ns root.toNat).kids.getD ((j:Int)).toNat 0).toNat default).kids.length:Int) - 1)=(l.length:Int):=by
     rw [hkR,show ((l++[b]).length:Int) - 1=(l.length:Int) by simp,w64 ⟨by omega,by omega⟩]
    have hc0:0≤IntKind.i64.wrap (((ns.getD ((nd ns root.toNat).kids.getD ((j:Int)).toNat 0).toNat default).kids.length:Int) - 1):=by rw [hwl];omega
    have hc1:IntKind.i64.wrap (((ns.getD ((nd ns root.toNat).kids.getD ((j:Int)).toNat 0).toNat default).kids.length:Int) - 1)<((ns.getD ((nd ns root.toNat).kids.getD ((j:Int)).toNat 0).toNat default).kids.length:Int):=by rw [hwl,hkR];simp;omega
    have hbq:(ns.getD ((nd ns root.toNat).kids.getD ((j:Int)).toNat 0).toNat default).kids.getD (IntKind.i64.wrap (((ns.getD ((nd ns root.toNat).kids.getD ((j:Int)).toNat 0).toNat default).kids.length:Int) - 1)).toNat 0=(b.toNat:Int):=by
     rw [hwl,hkR];simp [Int.toNat_of_nonneg b0]
    have hfo:IntKind.i64.wrap (IntKind.i64.wrap (((s0.n+3:Nat):Int) - 3)+1)=(s0.n:Int)+1:=by
     rw [show (((s0.n+3:Nat):Int) - 3)=(s0.n:Int) by omega,w64 (n:=(s0.n:Int)) ⟨by omega,by omega⟩,w64 ⟨by omega,by omega⟩]
    have hhd:IntKind.i64.wrap (IntKind.i64.wrap (((s0.n+3:Nat):Int) - 3)+2)=(s0.n:Int)+2:=by
     rw [show (((s0.n+3:Nat):Int) - 3)=(s0.n:Int) by omega,w64 (n:=(s0.n:Int)) ⟨by omega,by omega⟩,w64 ⟨by omega,by omega⟩]
    have hen:IntKind.i64.wrap (((s0.n+3:Nat):Int) - 3)=(s0.n:Int):=by
     rw [show (((s0.n+3:Nat):Int) - 3)=(s0.n:Int) by omega,w64 (n:=(s0.n:Int)) ⟨by omega,by omega⟩]
    have S:=steps_ok ns (s0.ps.length:Int) (q - s0.fst) s0.fst ⟨s0.n+3,endsS s0.n s0.f (q:Int) (s0.ps.length:Int),s0.of⟩
    rw [hs1] at S
    have hSle:=S.le
    simp only at hSle
    have hof:OfOk ns s1.of s1.n b.toNat:=fun i g1 g2 g3=>by
     have:=sh.hout
     obtain⟨x,a1,_,a3,_⟩:=S.new i (by omega) (by omega) g3
     exact⟨x,a1,a3⟩
    obtain⟨bg,G,hbl⟩:∃ bg G,flBlock ns s1.of ((s0.n:Int)+1) 4000 b.toNat ((s0.n:Int)+1) ((s0.n:Int)+2) s1.f=(bg,G):=⟨_,_,rfl⟩
    have e3:stepB ns s0 q=⟨s1.n,setG G s0.n [bg] (G s0.n).ra,s1.of,s0.ps++[(q:Int)],q+1⟩:=by
     have hbody:(nd ns q).kids.getD ((nd ns q).kids.length - 1) 0=b:=by rw [hkids];simp
     simp only [stepB,beq_iff_eq.2 h3,layS,hs1,hbody,hbl]
    rw [e3] at hnext hbd
    have he0:0≤IntKind.i64.wrap (((s0.n+3:Nat):Int) - 3):=by rw [hen];omega
    have he1:IntKind.i64.wrap (((s0.n+3:Nat):Int) - 3)<(s1.n:Int):=by rw [hen];omega
    conv=>whnf
    refine Chk.mk ⟨hb0,hb1,rfl⟩ ?_
    conv=>whnf
    refine Chk.mk ⟨hc0,hc1,rfl⟩ ?_
    conv=>whnf
    refine⟨ns,root,s1.n,s1.f,s1.of,(s0.n:Int)+1,s0.ps.length+1,_,b.toNat,(s0.n:Int)+1,(s0.n:Int)+2,_,_,_,_,_,bg,G,rfl,rfl,hbq,hfo,hhd,hfo,rt,by omega,hkb,hof,hbl,?_⟩
    conv=>whnf
    repeat ((refine And.intro ?_ ?_);(focus ((conv=>whnf);first|done|exact⟨⟨hc0,hc1,rfl⟩,by conv=>whnf⟩|exact⟨⟨rfl,Nat.zero_add _,he0,he1,rfl⟩,by conv=>whnf⟩));conv=>whnf)
    refine Chk.mk ⟨rfl,Nat.zero_add _,he0,he1,rfl⟩ ?_
    conv=>whnf
    refine Chk.mk ⟨rfl,rfl⟩ ?_
    conv=>whnf
    have hpl2:s0.ps.length+1=(s0.ps++[(q:Int)]).length:=by simp
    have hea:0+(IntKind.i64.wrap (((s0.n+3:Nat):Int) - 3)).toNat=s0.n:=by rw [hen];simp
    refine hle _ _ (Le.trans (Le.fz7 (r:=2) (b5':=gnA s1.n (setG G s0.n [bg] (G s0.n).ra)) (kidF [bg]) rfl (row1 rfl) (.inr ⟨_,_,_,_,_,_,rfl,rfl,gn_fz rfl rfl fun i=>gn_upd1 hea rfl i⟩)) (Le.cutEnv 7 rfl rfl stK_cl ?_ ?_))
     (ih ⟨⟨s1.n,setG G s0.n [bg] (G s0.n).ra,s1.of,s0.ps++[(q:Int)],q+1⟩,j+1,(s0.n:Int)+1⟩ (by simp only;omega) ⟨by simp only;omega,hnext,hbd,by simp only [List.length_append,List.length_cons,List.length_nil];omega⟩)
    ·skip
     repeat' (first|exact trivial|((conv=>whnf);first|exact trivial|refine⟨AV.le_refl _,?_⟩|refine⟨ABlk.le_refl _,?_⟩|(refine⟨AV.le_of_eq ?_,?_⟩;focus ((first|exact congrArg intV hw1|exact congrArg intV hwq|fail);done))|(refine⟨ABlk.le_of_eq ?_,?_⟩;focus ((first|exact congrArg intV hw1|exact congrArg intV hwq|fail);done))|fail)|fail)
    ·skip
     repeat' (first|exact trivial|((conv=>whnf);first|exact trivial|refine⟨AV.le_refl _,?_⟩|refine⟨ABlk.le_refl _,?_⟩|(refine⟨AV.le_of_eq ?_,?_⟩;focus ((first|exact congrArg (grB s1.n) hpl2|exact congrArg (fun m=>rowA m fun i=>(s0.ps++[(q:Int)]).getD i 0) hpl2|fail);done))|(refine⟨ABlk.le_of_eq ?_,?_⟩;focus ((first|exact congrArg (grB s1.n) hpl2|exact congrArg (fun m=>rowA m fun i=>(s0.ps++[(q:Int)]).getD i 0) hpl2|fail);done))|fail)|fail)
  ·have h3:(nd ns q).k≠3:=by
    have h3:(nd ns ((nd ns root.toNat).kids.getD ((j:Int)).toNat 0).toNat).k≠3:=h3
    rw [hqv] at h3;exact h3
   have e3:stepB ns s0 q=⟨s0.n,s0.f,s0.of,s0.ps,q+1⟩:=by simp only [stepB,beq_eq_false_iff_ne.2 h3]
   rw [e3] at hnext hbd
   conv=>whnf
   refine hle _ _ (Le.cutEnv 7 rfl rfl stK_cl ?_ ?_) (ih ⟨⟨s0.n,s0.f,s0.of,s0.ps,q+1⟩,j+1,ex⟩ (by simp only;omega) ⟨by simp only;omega,hnext,hbd,by simp only;omega⟩)
   ·skip
    repeat' (first|exact trivial|((conv=>whnf);first|exact trivial|refine⟨AV.le_refl _,?_⟩|refine⟨ABlk.le_refl _,?_⟩|(refine⟨AV.le_of_eq ?_,?_⟩;focus ((first|exact congrArg intV hw1|exact congrArg intV hwq|fail);done))|(refine⟨ABlk.le_of_eq ?_,?_⟩;focus ((first|exact congrArg intV hw1|exact congrArg intV hwq|fail);done))|fail)|fail)
   ·skip
    repeat' (first|exact trivial|((conv=>whnf);first|exact trivial|refine⟨AV.le_refl _,?_⟩|refine⟨ABlk.le_refl _,?_⟩|fail)|fail)
 ·obtain rfl:j=(nd ns root.toNat).kids.length:=by have h:¬ (j:Int)<((nd ns root.toNat).kids.length:Int):=h;omega
  rw [List.drop_length] at hbd
  simp only [buildR] at hbd
  subst hbd
  conv=>whnf
  exact hr _ _ _ _ (Wk1.fzAll (fzv_graph rfl rfl)) rfl hk
set_option maxHeartbeats 1000000
def gnB (a b:GN):Bool:=a.k==b.k&&(a.pl==b.pl&&(a.pr==b.pr&&(a.nx==b.nx&&a.ra==b.ra)))
theorem gnB_eq {a b:GN} (h:gnB a b=true):a=b:=by
 simp only [gnB,Bool.and_eq_true,beq_iff_eq] at h
 obtain⟨h1,h2,h3,h4,h5⟩:=h
 cases a;cases b
 simp only at h1 h2 h3 h4 h5
 subst h1 h2 h3 h4 h5
 rfl
theorem agg_le {l l':List AV} (h:lesL l l'):(AV.agg l).le (.agg l'):=fun w m u hV=>by
 obtain⟨h1,h2⟩:=h.get
 cases hV with
 | agg _ A hA hv=>exact .agg _ A (by omega) fun j hj hj'=>h2 j (by omega) hj _ _ _ (hv j (by omega) hj')
def pvLe (a b:PV):Prop:=∀ w I u,VP w I a u→VP w I b u
theorem sl_leP {sz n n':Nat} {f f':Nat→List PV} (hn:n'=n) (h:∀ i,i<n→(f i).length=(f' i).length∧∀ j (hj:j<(f i).length) (hj':j<(f' i).length),pvLe (f i)[j] (f' i)[j]):(AV.p (.sl sz n f)).le (.p (.sl sz n' f')):=fun w m u hv=>by
 subst hn
 cases hv with
 | p _ _ hv =>
  cases hv with
  | sl0 _ _ a c=>exact .p _ _ (.sl0 sz f' a c)
  | sl _ _ _ b o c u hI hcap hc hv =>
   refine .p _ _ (.sl sz n' f' b o c u hI hcap (fun i hi j hj=>?_) (fun i hi j hj=>?_))
   ·exact hc i hi j (by rw [(h i hi).1];exact hj)
   ·exact (h i hi).2 j (by rw [(h i hi).1];exact hj) hj _ _ _ (hv i hi j (by rw [(h i hi).1];exact hj))
theorem pvLe_refl (a:PV):pvLe a a:=fun _ _ _ h=>h
theorem nxP_le (l:List Int):pvLe (nxP l) (.sl 1 l.length (kidF l)):=fun w I u h=>by
 cases l with
 | nil =>
  cases h
  exact .sl0 ..
 | cons a l=>exact h
theorem gnF_le {f f':Nat→GN} {n n':Nat} (hn:n'=n) (hf:∀ i,i<n→f i=f' i):(AV.p (.sl 5 n (gnF f))).le (.p (.sl 5 n' (gnW f'))) :=
 sl_leP hn fun i hi=>⟨rfl,fun j hj hj'=>by
  have hfi:=hf i hi
  rcases j with _|_|_|_|_|j
  ·show pvLe (.int .i64 (f i).k) (.int .i64 (f' i).k);rw [hfi];exact pvLe_refl _
  ·show pvLe (.int .i64 (f i).pl) (.int .i64 (f' i).pl);rw [hfi];exact pvLe_refl _
  ·show pvLe (.int .i64 (f i).pr) (.int .i64 (f' i).pr);rw [hfi];exact pvLe_refl _
  ·show pvLe (nxP (f i).nx) (.sl 1 (f' i).nx.length (kidF (f' i).nx));rw [hfi];exact nxP_le _
  ·show pvLe (.int .i64 (f i).ra) (.int .i64 (f' i).ra);rw [hfi];exact pvLe_refl _
  ·simp [gnF] at hj;omega⟩
def eBuildL:AC:=fun args K k=>∃ ns root a s s',args=[treeV ns root]∧Tame ns∧checkTree ns root=(a,0)∧buildS ns root=s∧s.n=s'.n∧s.ps=s'.ps∧(∀ i,i<s.n→s.f i=s'.f i)∧k (.ret (.tup [graphW s',intV 0])) K
theorem eBuildL_ok:COk 21 eBuildL:=by
 rintro args K k ⟨ns,root,a,s,s',rfl,ta,hc,hs,hn,hp,hf,hk⟩
 refine ACalls.post (k:=fun ao K1=>ao=.ret (.tup [graphV s,intV 0])∧K1=K) (build_okW _ _ _ ⟨ns,root,a,0,s,rfl,ta,hc,hs,fun h=>absurd rfl h,fun _=>⟨rfl,rfl⟩⟩) ?_
 rintro ao K1 ⟨rfl,rfl⟩
 exact⟨.tup [graphW s',intV 0],K1,Wk1.le (AV.tup_le ⟨agg_le ⟨gnF_le hn.symm hf,AV.le_of_eq (by rw [hp]),trivial⟩,AV.le_refl _,trivial⟩) (lesK.refl _),hk⟩
set_option maxHeartbeats 400000
def nodeW (g:GN):AV:=.agg (pvs [.int .i64 g.k,.int .i64 g.pl,.int .i64 g.pr,.sl 1 g.nx.length (kidF g.nx),.int .i64 g.ra])
def gCl:AG:=gput 46 cCloneW g0
theorem gCl_ok:GOk Tryz.prog gCl:=gput_ok cloneW_ok g0_ok
def cWays:AC:=fun args K k=>∃ g l,args=[nodeW g]∧g.nx.length<100000∧wayN g=l∧k (.ret (intsV l)) K
theorem ways_ok:COk 68 cWays:=by
 rintro args K k ⟨g,l,rfl,hn,rfl,hk⟩
 refine frameZ (K0:=[]) (X:=K) gCl_ok 19 rfl trivial fun Q hr=>?_
 conv=>whnf
 refine⟨g.nx,rfl,by omega,?_⟩
 conv=>whnf
 refine two_ne (fun h=>?_) (fun h=>?_)
 ·have h:g.ra≠-1:=h
  rw [show wayN g=g.nx++[g.ra] by simp [wayN,h]] at hk
  conv=>whnf
  refine Chk.mk ⟨rfl,rfl,rfl,allLt_ok ⟨trivial,rfl⟩⟩ ?_
  conv=>whnf
  refine Chk.mk ⟨rfl,rfl,rfl,rfl,(by show (g.nx.length+1)*8≤140737488355328;omega),(by show g.nx.length+1≤9223372036854775807;omega)⟩ ?_
  conv=>whnf
  exact hr _ _ (intsV (g.nx++[g.ra])) [] _ (Wk1.fzOne (fun i hi=>cat_one hi) rfl) rfl rfl trivial hk
 ·have h:g.ra=-1:=h
  rw [show wayN g=g.nx by simp [wayN,h]] at hk
  conv=>whnf
  exact hr _ _ (intsV g.nx) [] _ (Wk1.fzL rfl rfl) rfl rfl trivial hk
def cEnds:AC:=fun args K k=>∃ g b,args=[nodeW g]∧endB g=b∧k (.ret (.p (.bool b))) K
theorem ends_ok:COk 69 cEnds:=by
 rintro args K k ⟨g,b,rfl,rfl,hk⟩
 refine frame0P g0_ok 19 rfl fun Q hr=>?_
 conv=>whnf
 refine two_eq (fun h=>?_) (fun h=>?_)
 ·have h:g.k=2:=h
  rw [show endB g=true by simp [endB,h]] at hk
  conv=>whnf
  exact hr _ _ rfl hk
 ·have h:g.k≠2:=h
  have e:endB g=(g.k==3):=by simp [endB,h]
  rw [e] at hk
  conv=>whnf
  exact hr _ _ rfl hk
def cNoF:AC:=fun args K k=>∃ (r ver n:Nat) (f:Nat→Bool),args=[.slr r ver 0 n,.p (.bool false)]∧nth K r=some (.arr 4 1 ver n fun i=>[.p (.bool (f i))])∧n<1000000∧∀ b,(b=true↔∃ i,i<n∧f i=false)→k (.ret (.p (.bool b))) K
theorem noF_ok:COk 70 cNoF:=by
 rintro args K k ⟨r,ver,n,f,rfl,hr,hn,hk⟩
 refine call_ok g0_ok 19 _ _ _ _ ?_
 conv=>whnf
 ((first|refine fK_to ?_|refine fL_to ?_|refine fB_to ?_);conv=>whnf)
 ((first|refine fK_to ?_|refine fL_to ?_|refine fB_to ?_);conv=>whnf)
 ((first|refine fK_to ?_|refine fL_to ?_|refine fB_to ?_);conv=>whnf)
 refine loop_up (ι:=Nat) [0,1,7] (fun i=>[(8,intV i)]) (fun _=>[]) (fun i=>i≤n∧∀ j,j<i→f j=true) (fun i=>n - i) 0 ⟨AV.le_refl _,trivial⟩ trivial ⟨Nat.zero_le _,fun j hj=>by omega⟩ ?_
 rintro Y hle i ⟨hi,hall⟩ ih
 by_cases h:i<n
 ·have h':(i:Int)<(n:Int):=by omega
  have hw1:=wzz (i:=i) (by omega)
  have hi0:(0:Int)≤(i:Int):=by omega
  conv=>whnf
  refine two_true (decide_eq_true h') ?_
  conv=>whnf
  conv in (nth _ _)=>tactic=>exact hr
  conv=>whnf
  refine Chk.mk ⟨rfl,Nat.zero_add _,hi0,h',rfl⟩ ?_
  conv=>whnf
  conv in (nth _ _)=>tactic=>exact hr
  conv=>whnf
  refine Chk.mk ⟨rfl,rfl⟩ ?_
  conv=>whnf
  cases hf:f i with
  | true =>
   refine two_false (show (false==f (0+i))=false by rw [Nat.zero_add,hf];rfl) ?_
   conv=>whnf
   refine hle _ _ (Le.env ?_ ?_) (ih (i+1) (by omega) ⟨by omega,fun j hj=>?_⟩)
   ·skip
    repeat' (first|exact trivial|((conv=>whnf);first|exact trivial|refine⟨AV.le_refl _,?_⟩|refine⟨ABlk.le_refl _,?_⟩|(refine⟨AV.le_of_eq ?_,?_⟩;focus ((first|exact congrArg intV hw1|fail);done))|(refine⟨ABlk.le_of_eq ?_,?_⟩;focus ((first|exact congrArg intV hw1|fail);done))|fail)|fail)
   ·exact lesK.refl _
   ·by_cases e:j=i
    ·rw [e];exact hf
    ·exact hall j (by omega)
  | false =>
   have hk:=hk true ⟨(fun _=>⟨i,h,hf⟩),(fun _=>rfl)⟩
   refine two_true (show (false==f (0+i))=true by rw [Nat.zero_add,hf];rfl) ?_
   conv=>whnf
   ((first|refine fK_to ?_|refine fL_to ?_|refine fB_to ?_);conv=>whnf)
   ((first|refine fK_to ?_|refine fL_to ?_|refine fB_to ?_);conv=>whnf)
   exact hk
 ·obtain rfl:i=n:=by omega
  have h':¬ (i:Int)<(i:Int):=by omega
  have hk:=hk false ⟨(fun e=>by cases e),(fun ⟨j,h1,h2⟩=>by rw [hall j h1] at h2;cases h2)⟩
  conv=>whnf
  refine two_false (decide_eq_false h') ?_
  conv=>whnf
  ((first|refine fK_to ?_|refine fL_to ?_|refine fB_to ?_);conv=>whnf)
  ((first|refine fK_to ?_|refine fL_to ?_|refine fB_to ?_);conv=>whnf)
  exact hk
end Go.Proofs.YtcmepkfefoidcaaGreatDoor
namespace Go.Bi
def popB:Nat→Nat→Nat
 | 0,_=>0
 | f+1,x=>x % 2+popB f (x / 2)
theorem popB_add (m n x:Nat):popB (m+n) x=popB m x+popB n (x / 2 ^ m):=by
 induction m generalizing x with
 | zero=>simp [popB]
 | succ m ih =>
  rw [Nat.succ_add]
  simp only [popB]
  rw [ih,Nat.div_div_eq_div_mul,Nat.pow_succ,Nat.mul_comm 2]
  omega
theorem popB_mod (m k x:Nat):popB m (x % 2 ^ (m+k))=popB m x:=by
 induction m generalizing x with
 | zero=>rfl
 | succ m ih =>
  simp only [popB]
  have h1:x % 2 ^ (m+1+k) % 2=x % 2:=by
   have:2 ^ (m+1+k)=2*2 ^ (m+k):=by rw [show m+1+k=(m+k)+1 by omega,Nat.pow_succ,Nat.mul_comm]
   rw [this,Nat.mod_mul_right_mod]
  have h2:x % 2 ^ (m+1+k) / 2=x / 2 % 2 ^ (m+k):=by
   have:2 ^ (m+1+k)=2*2 ^ (m+k):=by rw [show m+1+k=(m+k)+1 by omega,Nat.pow_succ,Nat.mul_comm]
   rw [this,Nat.mod_mul_right_div_self]
  rw [h1,h2,ih]
theorem and_split (q a M c:Nat) (ha:a<256) (hc:c<256):(256*q+a) &&& (256*M+c)=256*(q &&& M)+(a &&& c):=by
 have hac:a &&& c<256:=Nat.lt_of_le_of_lt Nat.and_le_left ha
 have h1:((256*q+a) &&& (256*M+c)) / 2 ^ 8=(q &&& M):=by
  rw [Nat.and_div_two_pow]
  congr 1<;>omega
 have h2:((256*q+a) &&& (256*M+c)) % 2 ^ 8=(a &&& c):=by
  rw [Nat.and_mod_two_pow]
  congr 1<;>omega
 have:=Nat.div_add_mod ((256*q+a) &&& (256*M+c)) (2 ^ 8)
 rw [h1,h2] at this
 omega
def rep (c:Nat):Nat→Nat
 | 0=>0
 | n+1=>256*rep c n+c
def f1 (n x:Nat):Nat:=((x / 2) &&& rep 85 n)+(x &&& rep 85 n)
def f2 (n x:Nat):Nat:=((x / 4) &&& rep 51 n)+(x &&& rep 51 n)
def f3 (n x:Nat):Nat:=(x / 16+x) &&& rep 15 n
theorem b1:∀ a,a<256→∀ r,r<2→(128*r+a / 2) &&& 85=(a / 2) &&& 85:=by decide +kernel
theorem b2:∀ a,a<256→∀ r,r<4→(64*r+a / 4) &&& 51=(a / 4) &&& 51:=by decide +kernel
def g1 (a:Nat):Nat:=((a / 2) &&& 85)+(a &&& 85)
def g2 (a:Nat):Nat:=((a / 4) &&& 51)+(a &&& 51)
theorem g1_lt:∀ a,a<256→g1 a<256:=by decide +kernel
theorem g2_of:∀ a,a<256→g2 (g1 a) % 16≤4∧g2 (g1 a) / 16≤4∧g2 (g1 a) / 16+g2 (g1 a) % 16=popB 8 a:=by decide +kernel
theorem f1_step (n q a:Nat) (ha:a<256):f1 (n+1) (256*q+a)=256*f1 n q+g1 a:=by
 unfold f1 g1
 simp only [rep]
 have e:(256*q+a) / 2=256*(q / 2)+(128*(q % 2)+a / 2):=by omega
 rw [e,and_split _ _ _ _ (by omega) (by decide),and_split _ _ _ _ ha (by decide),b1 a ha _ (by omega)]
 omega
theorem f2_step (n q a:Nat) (ha:a<256):f2 (n+1) (256*q+a)=256*f2 n q+g2 a:=by
 unfold f2 g2
 simp only [rep]
 have e:(256*q+a) / 4=256*(q / 4)+(64*(q % 4)+a / 4):=by omega
 rw [e,and_split _ _ _ _ (by omega) (by decide),and_split _ _ _ _ ha (by decide),b2 a ha _ (by omega)]
 omega
theorem f3_step (n q a:Nat) (h1:a % 16≤4) (h2:a / 16≤4) (h3:q % 16≤4):f3 (n+1) (256*q+a)=256*f3 n q+(a / 16+a % 16):=by
 unfold f3
 simp only [rep]
 have e:(256*q+a) / 16+(256*q+a)=256*(q / 16+q)+(16*(q % 16)+a / 16+a):=by omega
 rw [e,and_split _ _ _ _ (by omega) (by decide)]
 have:(16*(q % 16)+a / 16+a) &&& 15=(16*(q % 16)+a / 16+a) % 16:=Nat.and_two_pow_sub_one_eq_mod _ 4
 rw [this]
 omega
theorem low (n x:Nat):f2 n (f1 n x) % 16≤4:=by
 cases n with
 | zero=>simp [f2,rep]
 | succ n =>
  have e:x=256*(x / 256)+x % 256:=by omega
  rw [e,f1_step n _ _ (by omega),f2_step n _ _ (g1_lt _ (by omega))]
  have:=g2_of (x % 256) (by omega)
  omega
def sum8:Nat→Nat→Nat
 | 0,_=>0
 | n+1,x=>256*sum8 n (x / 256)+popB 8 x
theorem s_step (n x:Nat):f3 n (f2 n (f1 n x))=sum8 n x:=by
 induction n generalizing x with
 | zero=>simp [f3,rep,sum8]
 | succ n ih =>
  have e:x=256*(x / 256)+x % 256:=by omega
  have h:=g2_of (x % 256) (by omega)
  conv=>lhs;rw [e]
  rw [f1_step n _ _ (by omega),f2_step n _ _ (g1_lt _ (by omega)),f3_step n _ _ h.1 h.2.1 (low n _),ih]
  simp only [sum8]
  have:=popB_mod 8 0 x
  simp only [Nat.add_zero] at this
  rw [show (2:Nat) ^ 8=256 from rfl] at this
  omega
theorem popB_le (f x:Nat):popB f x≤f:=by
 induction f generalizing x with
 | zero=>exact Nat.le_refl _
 | succ f ih=>simp only [popB];have:=ih (x / 2);omega
def ones64 (x:Nat):Nat :=
 let x1:=((x / 2) &&& 6148914691236517205)+(x &&& 6148914691236517205)
 let x2:=((x1 / 4) &&& 3689348814741910323)+(x1 &&& 3689348814741910323)
 let x3:=(x2 / 16+x2) &&& 1085102592571150095
 let x4:=(x3+x3 / 256) % 18446744073709551616
 let x5:=(x4+x4 / 65536) % 18446744073709551616
 let x6:=(x5+x5 / 4294967296) % 18446744073709551616
 x6 % 128
theorem dv (m q r:Nat) (h:r<m):(m*q+r) / m=q:=by
 rw [Nat.mul_add_div (by omega),Nat.div_eq_of_lt h,Nat.add_zero]
theorem ones64_eq (x:Nat):ones64 x=popB 64 x:=by
 have e1:rep 85 8=6148914691236517205:=by decide
 have e2:rep 51 8=3689348814741910323:=by decide
 have e3:rep 15 8=1085102592571150095:=by decide
 have hs:=s_step 8 x
 unfold f3 f2 f1 at hs
 rw [e1,e2,e3] at hs
 unfold ones64
 simp only [hs]
 have hp:popB 64 x=popB 8 x+popB 8 (x / 256)+popB 8 (x / 256 / 256)+popB 8 (x / 256 / 256 / 256)+popB 8 (x / 256 / 256 / 256 / 256)+popB 8 (x / 256 / 256 / 256 / 256 / 256)+popB 8 (x / 256 / 256 / 256 / 256 / 256 / 256)+popB 8 (x / 256 / 256 / 256 / 256 / 256 / 256 / 256):=by
  rw [show 64=8+56 from rfl,popB_add 8 56,show 56=8+48 from rfl,popB_add 8 48,show 48=8+40 from rfl,popB_add 8 40,show 40=8+32 from rfl,popB_add 8 32,show 32=8+24 from rfl,popB_add 8 24,show 24=8+16 from rfl,popB_add 8 16,show 16=8+8 from rfl,popB_add 8 8]
  simp only [show (2:Nat) ^ 8=256 from rfl]
  omega
 rw [hp]
 simp only [sum8]
 have q0:=popB_le 8 x
 have q1:=popB_le 8 (x / 256)
 have q2:=popB_le 8 (x / 256 / 256)
 have q3:=popB_le 8 (x / 256 / 256 / 256)
 have q4:=popB_le 8 (x / 256 / 256 / 256 / 256)
 have q5:=popB_le 8 (x / 256 / 256 / 256 / 256 / 256)
 have q6:=popB_le 8 (x / 256 / 256 / 256 / 256 / 256 / 256)
 have q7:=popB_le 8 (x / 256 / 256 / 256 / 256 / 256 / 256 / 256)
 generalize popB 8 x=p0 at *
 generalize popB 8 (x / 256)=p1 at *
 generalize popB 8 (x / 256 / 256)=p2 at *
 generalize popB 8 (x / 256 / 256 / 256)=p3 at *
 generalize popB 8 (x / 256 / 256 / 256 / 256)=p4 at *
 generalize popB 8 (x / 256 / 256 / 256 / 256 / 256)=p5 at *
 generalize popB 8 (x / 256 / 256 / 256 / 256 / 256 / 256)=p6 at *
 generalize popB 8 (x / 256 / 256 / 256 / 256 / 256 / 256 / 256)=p7 at *
 clear hs hp e1 e2 e3
 obtain⟨s,hs⟩:∃ s,s=256*(256*(256*(256*(256*(256*(256*(256*0+p7)+p6)+p5)+p4)+p3)+p2)+p1)+p0:=⟨_,rfl⟩
 rw [← hs]
 obtain⟨a,ha⟩:∃ a,a=256*(256*(256*(256*(256*(256*(256*0+p7)+p6)+p5)+p4)+p3)+p2)+p1:=⟨_,rfl⟩
 rw [← ha] at hs
 rw [show s / 256=a by rw [hs];exact dv _ _ _ (by omega)]
 obtain⟨b,hb⟩:∃ b,b=256*(256*(256*(256*(256*p7+(p6+p7))+(p5+p6))+(p4+p5))+(p3+p4))+(p2+p3):=⟨_,rfl⟩
 have h1:s+a=65536*b+(256*(p1+p2)+(p0+p1)):=by omega
 rw [h1,Nat.mod_eq_of_lt (a:=65536*b+_) (by omega),dv 65536 b _ (by omega)]
 obtain⟨c,hc⟩:∃ c,c=256*(256*(256*p7+(p6+p7))+(p5+p6+p7))+(p4+p5+p6+p7):=⟨_,rfl⟩
 have h2:65536*b+(256*(p1+p2)+(p0+p1))+b=4294967296*c+(256*(256*(256*(p3+p4+p5+p6)+(p2+p3+p4+p5))+(p1+p2+p3+p4))+(p0+p1+p2+p3)):=by omega
 rw [h2,Nat.mod_eq_of_lt (a:=4294967296*c+_) (by omega),dv 4294967296 c _ (by omega)]
 obtain⟨d,hd⟩:∃ d,d=4294967296*c+(256*(256*(256*(p3+p4+p5+p6)+(p2+p3+p4+p5))+(p1+p2+p3+p4))+(p0+p1+p2+p3))+c:=⟨_,rfl⟩
 rw [← hd,Nat.mod_eq_of_lt (a:=d) (by omega)]
 obtain⟨e,he⟩:∃ e,d=128*e+(p0+p1+p2+p3+p4+p5+p6+p7):=⟨2*(16777216*c+(256*(256*(p3+p4+p5+p6)+(p2+p3+p4+p5))+(p1+p2+p3+p4))+(256*(256*p7+(p6+p7))+(p5+p6+p7))),by omega⟩
 rw [he,Nat.mul_add_mod,Nat.mod_eq_of_lt (by omega)]
def hasW (W:Nat→Nat) (n:Nat):Bool:=(W (n / 64)).testBit (n % 64)
def wOk (W:Nat→Nat):Prop:=∀ i,W i<18446744073709551616
def withW (W:Nat→Nat) (n:Nat) (i:Nat):Nat:=if i=n / 64 then W i ||| 2 ^ (n % 64) else W i
def withoutW (W:Nat→Nat) (n:Nat) (i:Nat):Nat:=if i=n / 64 then W i &&& (18446744073709551615 - 2 ^ (n % 64)) else W i
def andW (W V:Nat→Nat) (i:Nat):Nat:=W i &&& V i
def zeroW (_:Nat):Nat:=0
def sameW (W V:Nat→Nat):Prop:=∀ i,i<64→W i=V i
theorem two_lt (n:Nat):2 ^ (n % 64)<18446744073709551616 :=
 show 2 ^ (n % 64)<2 ^ 64 from Nat.pow_lt_pow_right (by decide) (Nat.mod_lt _ (by decide))
theorem wOk_zero:wOk zeroW:=fun _=>by unfold zeroW;decide
theorem wOk_with {W:Nat→Nat} (h:wOk W) (n:Nat):wOk (withW W n):=fun i=>by
 unfold withW
 split
 ·exact Nat.or_lt_two_pow (n:=64) (h i) (two_lt n)
 ·exact h i
theorem wOk_without {W:Nat→Nat} (h:wOk W) (n:Nat):wOk (withoutW W n):=fun i=>by
 unfold withoutW
 split
 ·exact Nat.lt_of_le_of_lt Nat.and_le_left (h i)
 ·exact h i
theorem has_zero (n:Nat):hasW zeroW n=false:=by simp [hasW,zeroW]
theorem has_and (W V:Nat→Nat) (n:Nat):hasW (andW W V) n=(hasW W n&&hasW V n):=by simp [hasW,andW]
theorem has_with (W:Nat→Nat) (n m:Nat):hasW (withW W n) m=(hasW W m || decide (m=n)):=by
 unfold hasW withW
 by_cases h:m / 64=n / 64
 ·rw [if_pos h,Nat.testBit_or,Nat.testBit_two_pow]
  congr 1
  rw [decide_eq_decide]
  constructor
  ·intro e;omega
  ·rintro rfl;rfl
 ·rw [if_neg h]
  have:decide (m=n)=false:=decide_eq_false fun e=>h (by rw [e])
  rw [this,Bool.or_false]
theorem has_without (W:Nat→Nat) (n m:Nat):hasW (withoutW W n) m=(hasW W m&&!decide (m=n)):=by
 unfold hasW withoutW
 by_cases h:m / 64=n / 64
 ·rw [if_pos h,Nat.testBit_and]
  congr 1
  have e:18446744073709551615 - 2 ^ (n % 64)=2 ^ 64 - (2 ^ (n % 64)+1):=by have:=two_lt n;omega
  rw [e,Nat.testBit_two_pow_sub_succ (two_lt n),Nat.testBit_two_pow]
  have h64:m % 64<64:=Nat.mod_lt _ (by decide)
  simp only [h64,decide_true,Bool.true_and]
  congr 1
  rw [decide_eq_decide]
  constructor
  ·intro e;omega
  ·rintro rfl;rfl
 ·rw [if_neg h]
  have:decide (m=n)=false:=decide_eq_false fun e=>h (by rw [e])
  rw [this,Bool.not_false,Bool.and_true]
theorem same_iff {W V:Nat→Nat} (hW:wOk W) (hV:wOk V):sameW W V↔∀ n,n<4096→hasW W n=hasW V n:=by
 constructor
 ·intro h n hn
  unfold hasW
  rw [h _ (by omega)]
 ·intro h i hi
  apply Nat.eq_of_testBit_eq
  intro j
  by_cases hj:j<64
  ·have:=h (64*i+j) (by omega)
   unfold hasW at this
   have e1:(64*i+j) / 64=i:=by omega
   have e2:(64*i+j) % 64=j:=by omega
   rw [e1,e2] at this
   exact this
  ·have h2:(2:Nat) ^ 64≤2 ^ j:=Nat.pow_le_pow_right (by decide) (by omega)
   have h3:(18446744073709551616:Nat)=2 ^ 64:=by decide
   rw [Nat.testBit_lt_two_pow (Nat.lt_of_lt_of_le (h3▸hW i) h2),Nat.testBit_lt_two_pow (Nat.lt_of_lt_of_le (h3▸hV i) h2)]
def listW (W:Nat→Nat) (n:Nat):List Nat:=(List.range n).filter (hasW W)
theorem listW_succ (W:Nat→Nat) (n:Nat):listW W (n+1)=listW W n++if hasW W n then [n] else []:=by
 unfold listW
 rw [List.range_succ,List.filter_append]
 congr 1
 by_cases h:hasW W n=true<;>simp [h]
theorem listW_skip {W:Nat→Nat} {n m:Nat} (hnm:n≤m) (h:∀ k,n≤k→k<m→hasW W k=false):listW W m=listW W n:=by
 induction m with
 | zero =>
  have:n=0:=by omega
  rw [this]
 | succ m ih =>
  by_cases e:n=m+1
  ·rw [e]
  ·rw [listW_succ,h m (by omega) (by omega),ih (by omega) fun k h1 h2=>h k h1 (by omega)]
   simp
def countW (W:Nat→Nat):Nat→Nat
 | 0=>0
 | n+1=>countW W n+popB 64 (W n)
theorem filter_test (f x:Nat):((List.range f).filter fun j=>x.testBit j).length=popB f x:=by
 induction f generalizing x with
 | zero=>rfl
 | succ f ih =>
  rw [List.range_succ_eq_map,List.filter_cons]
  simp only [popB]
  have h2:(List.filter (fun j=>x.testBit j) (List.map Nat.succ (List.range f))).length=popB f (x / 2):=by
   rw [← ih,List.filter_map,List.length_map]
   congr 2
   funext j
   simp [Nat.testBit_succ]
  have h3:x.testBit 0=decide (x % 2=1):=Nat.testBit_zero x
  by_cases h:x % 2=1
  ·rw [if_pos (by rw [h3];simp [h]),List.length_cons,h2];omega
  ·rw [if_neg (by rw [h3];simp [h]),h2];omega
theorem count_eq (W:Nat→Nat) (n:Nat):countW W n=(listW W (64*n)).length:=by
 induction n with
 | zero=>rfl
 | succ n ih =>
  have:∀ j,j≤64→(listW W (64*n+j)).length=(listW W (64*n)).length+((List.range j).filter fun j=>(W n).testBit j).length:=by
   intro j
   induction j with
   | zero=>intro _;simp
   | succ j ih2 =>
    intro hj
    rw [← Nat.add_assoc,listW_succ,List.length_append,ih2 (by omega),List.range_succ,List.filter_append,List.length_append]
    have e:hasW W (64*n+j)=(W n).testBit j:=by
     unfold hasW
     rw [show (64*n+j) / 64=n by omega,show (64*n+j) % 64=j by omega]
    rw [e]
    cases hb:(W n).testBit j<;>simp [hb]<;>omega
  have h:=this 64 (Nat.le_refl _)
  rw [filter_test] at h
  simp only [countW]
  rw [ih,Nat.mul_succ,h]
structure NextIs (W:Nat→Nat) (n:Nat) (r:Int):Prop where
 none:r=-1→∀ m,n≤m→m<4096→hasW W m=false
 some:r≠-1→∃ m:Nat,r=m∧n≤m∧m<4096∧hasW W m=true∧∀ k,n≤k→k<m→hasW W k=false
theorem shift_zero {x s:Nat} (h:x / 2 ^ s=0) (j:Nat) (hj:s≤j):x.testBit j=false:=by
 have:x<2 ^ s:=by
  rcases Nat.div_eq_zero_iff.1 h with h|h
  ·have:=Nat.two_pow_pos s;omega
  ·exact h
 exact Nat.testBit_lt_two_pow (Nat.lt_of_lt_of_le this (Nat.pow_le_pow_right (by decide) hj))
theorem ctz_bit {x:Nat} (h0:x≠0) (h:x<2 ^ 64):x.testBit (Lib.ctz 64 x)=true∧Lib.ctz 64 x<64∧∀ j,j<Lib.ctz 64 x→x.testBit j=false:=by
 obtain⟨m,hm,hk⟩:=Lib.ctzFrom_spec 64 x (by omega) h
 have e:Lib.ctz 64 x=Lib.ctzFrom 64 x:=by simp [Lib.ctz,h0]
 rw [e]
 generalize hq:Lib.ctzFrom 64 x=q at *
 refine⟨?_,hk,fun j hj=>?_⟩
 ·rw [hm,Nat.mul_comm,Nat.testBit_mul_two_pow];simp
 ·rw [hm,Nat.mul_comm,Nat.testBit_mul_two_pow];simp;omega
theorem next_some {W:Nat→Nat} (hW:wOk W) {n0 n:Nat} (hn:n<4096) (hle:n0≤n) (hsk:∀ k,n0≤k→k<n→hasW W k=false) (h0:W (n / 64) / 2 ^ (n % 64)≠0) :
  NextIs W n0 (n+Lib.ctz 64 (W (n / 64) / 2 ^ (n % 64)):Int):=by
 have hlt:W (n / 64) / 2 ^ (n % 64)<2 ^ 64:=Nat.lt_of_le_of_lt (Nat.div_le_self _ _) (hW _)
 obtain⟨h1,h2,h3⟩:=ctz_bit h0 hlt
 generalize hc:Lib.ctz 64 (W (n / 64) / 2 ^ (n % 64))=c at *
 have hb:∀ j,(W (n / 64) / 2 ^ (n % 64)).testBit j=(W (n / 64)).testBit (n % 64+j):=fun j=>by
  rw [← Nat.shiftRight_eq_div_pow,Nat.testBit_shiftRight]
 have hcs:n % 64+c<64:=by
  apply Nat.lt_of_not_le
  intro hge
  rw [hb,Nat.testBit_lt_two_pow (Nat.lt_of_lt_of_le (hW _) (show 18446744073709551616≤2 ^ (n % 64+c) from Nat.pow_le_pow_right (n:=2) (by decide) hge))] at h1
  cases h1
 refine⟨fun e=>by omega,fun _=>⟨n+c,by omega,by omega,by omega,?_,fun k hk1 hk2=>?_⟩⟩
 ·unfold hasW
  rw [show (n+c) / 64=n / 64 by omega,show (n+c) % 64=n % 64+c by omega,← hb]
  exact h1
 ·by_cases hkn:k<n
  ·exact hsk k hk1 hkn
  ·have:=h3 (k - n) (by omega)
   rw [hb] at this
   unfold hasW
   rw [show k / 64=n / 64 by omega,show k % 64=n % 64+(k - n) by omega]
   exact this
theorem next_skip {W:Nat→Nat} {n0 n:Nat} (hsk:∀ k,n0≤k→k<n→hasW W k=false) (h0:W (n / 64) / 2 ^ (n % 64)=0) :
  ∀ k,n0≤k→k<(n / 64+1)*64→hasW W k=false:=by
 intro k hk1 hk2
 by_cases hkn:k<n
 ·exact hsk k hk1 hkn
 ·unfold hasW
  rw [show k / 64=n / 64 by omega]
  exact shift_zero h0 _ (by omega)
theorem next_none {W:Nat→Nat} {n0 n:Nat} (hn:4096≤n) (hsk:∀ k,n0≤k→k<n→hasW W k=false):NextIs W n0 (-1) :=
 ⟨fun _ m h1 h2=>hsk m h1 (by omega),fun h=>absurd rfl h⟩
end Go.Bi
namespace Go.Bi
def bitN (p:Nat→Bool):Nat→Nat
 | 0=>0
 | n+1=>bitN p n ||| (if p n=true then 2 ^ n else 0)
theorem bitN_test (p:Nat→Bool) (n j:Nat):(bitN p n).testBit j=(decide (j<n)&&p j):=by
 induction n with
 | zero=>simp [bitN]
 | succ n ih =>
  simp only [bitN,Nat.testBit_or,ih]
  by_cases h:p n=true
  ·rw [if_pos h,Nat.testBit_two_pow]
   by_cases e:n=j
   ·subst e;simp [h]
   ·have:(decide (j<n+1))=decide (j<n):=decide_eq_decide.2 (by omega)
    simp [e,this]
  ·rw [if_neg h,Nat.zero_testBit,Bool.or_false]
   by_cases e:n=j
   ·subst e;simp at h;simp [h]
   ·have:(decide (j<n+1))=decide (j<n):=decide_eq_decide.2 (by omega)
    simp [this]
theorem bitN_lt (p:Nat→Bool) (n:Nat):bitN p n<2 ^ n:=by
 induction n with
 | zero=>simp [bitN]
 | succ n ih =>
  simp only [bitN]
  refine Nat.or_lt_two_pow ?_ ?_
  ·have:=Nat.pow_lt_pow_right (a:=2) (by decide) (Nat.lt_succ_self n);omega
  ·split
   ·exact Nat.pow_lt_pow_right (by decide) (Nat.lt_succ_self n)
   ·exact Nat.two_pow_pos _
def wordsOf (S:Nat→Bool) (i:Nat):Nat:=bitN (fun j=>S (64*i+j)) 64
theorem wordsOk (S:Nat→Bool):wOk (wordsOf S):=fun i=>bitN_lt _ 64
theorem has_words (S:Nat→Bool) (n:Nat):hasW (wordsOf S) n=S n:=by
 unfold hasW wordsOf
 rw [bitN_test,decide_eq_true (Nat.mod_lt _ (by decide)),Bool.true_and,Nat.div_add_mod]
theorem words_same {W:Nat→Nat} {S:Nat→Bool} (hW:wOk W) (h:∀ n,n<4096→hasW W n=S n):sameW W (wordsOf S) :=
 (same_iff hW (wordsOk S)).2 fun n hn=>by rw [h n hn,has_words]
def insS (S:Nat→Bool) (n m:Nat):Bool:=S m || decide (m=n)
def remS (S:Nat→Bool) (n m:Nat):Bool:=S m&&!decide (m=n)
def andS (S R:Nat→Bool) (m:Nat):Bool:=S m&&R m
def listS (S:Nat→Bool) (n:Nat):List Nat:=(List.range n).filter S
theorem listS_eq (S:Nat→Bool) (n:Nat):listW (wordsOf S) n=listS S n:=by
 unfold listW listS
 congr 1
 funext m
 exact has_words S m
theorem mem_listS {S:Nat→Bool} {n k:Nat}:k∈listS S n↔k<n∧S k=true:=by simp [listS]
end Go.Bi
namespace Go.AE
open Go.Bi
def ws (W:Nat→Nat):List PV:=[.int .u64 (W 0),.int .u64 (W 1),.int .u64 (W 2),.int .u64 (W 3),.int .u64 (W 4),.int .u64 (W 5),.int .u64 (W 6),.int .u64 (W 7),.int .u64 (W 8),.int .u64 (W 9),.int .u64 (W 10),.int .u64 (W 11),.int .u64 (W 12),.int .u64 (W 13),.int .u64 (W 14),.int .u64 (W 15),.int .u64 (W 16),.int .u64 (W 17),.int .u64 (W 18),.int .u64 (W 19),.int .u64 (W 20),.int .u64 (W 21),.int .u64 (W 22),.int .u64 (W 23),.int .u64 (W 24),.int .u64 (W 25),.int .u64 (W 26),.int .u64 (W 27),.int .u64 (W 28),.int .u64 (W 29),.int .u64 (W 30),.int .u64 (W 31),.int .u64 (W 32),.int .u64 (W 33),.int .u64 (W 34),.int .u64 (W 35),.int .u64 (W 36),.int .u64 (W 37),.int .u64 (W 38),.int .u64 (W 39),.int .u64 (W 40),.int .u64 (W 41),.int .u64 (W 42),.int .u64 (W 43),.int .u64 (W 44),.int .u64 (W 45),.int .u64 (W 46),.int .u64 (W 47),.int .u64 (W 48),.int .u64 (W 49),.int .u64 (W 50),.int .u64 (W 51),.int .u64 (W 52),.int .u64 (W 53),.int .u64 (W 54),.int .u64 (W 55),.int .u64 (W 56),.int .u64 (W 57),.int .u64 (W 58),.int .u64 (W 59),.int .u64 (W 60),.int .u64 (W 61),.int .u64 (W 62),.int .u64 (W 63)]
theorem ws_len (W:Nat→Nat):(ws W).length=64:=rfl
theorem ws_eq (W:Nat→Nat):ws W=(List.range 64).map fun i=>.int .u64 (W i):=rfl
theorem ws_nth {W:Nat→Nat} {i:Nat} (h:i<64):nth (pvs (ws W)) i=some (.p (.int .u64 (W i))):=by
 rw [nth_eq,List.getElem?_eq_getElem (by rw [pvs_len,ws_len];exact h),pvs_get]
 simp only [ws_eq,List.getElem_map,List.getElem_range]
theorem ws_get {W:Nat→Nat} {j:Nat} (h:j<(pvs (ws W)).length):(pvs (ws W))[j]=.p (.int .u64 (W j)):=by
 rw [pvs_get]
 simp only [ws_eq,List.getElem_map,List.getElem_range]
theorem ws_set {W V:Nat→Nat} {i:Nat} {v:Int} (hv:v=(V i:Int)) (hV:∀ j,j≠i→V j=W j):setN (pvs (ws W)) i (.p (.int .u64 v))=pvs (ws V):=by
 rw [setN_eq]
 apply List.ext_getElem
 ·rw [List.length_set,pvs_len,pvs_len,ws_len,ws_len]
 ·intro j h1 h2
  rw [List.getElem_set,ws_get]
  by_cases e:i=j
  ·subst e;rw [if_pos rfl,hv,ws_get]
  ·rw [if_neg e,ws_get,hV j fun h=>e h.symm]
def setV (W:Nat→Nat):AV:=.agg (pvs (ws W))
theorem ws_congr {W V:Nat→Nat} (h:sameW W V):ws W=ws V:=by
 rw [ws_eq,ws_eq]
 exact List.map_congr_left fun i hi=>by rw [h i (List.mem_range.1 hi)]
def setS (S:Nat→Bool):AV:=setV (wordsOf S)
def wsS (S:Nat→Bool):List PV:=ws (wordsOf S)
theorem setV_S {W:Nat→Nat} {S:Nat→Bool} (hW:wOk W) (h:∀ n,n<4096→hasW W n=S n):setV W=setS S:=by
 unfold setS setV
 rw [ws_congr (words_same hW h)]
theorem setS_congr {S R:Nat→Bool} (h:∀ n,n<4096→S n=R n):setS S=setS R :=
 setV_S (wordsOk S) fun n hn=>by rw [has_words,h n hn]
theorem wsS_congr {S R:Nat→Bool} (h:∀ n,n<4096→S n=R n):wsS S=wsS R :=
 ws_congr (words_same (wordsOk S) fun n hn=>by rw [has_words,h n hn])
theorem eqCs_ws (W V:Nat→Nat):eqCs (pvs (ws W)) (pvs (ws V))=true↔sameW W V:=by
 have key:∀ l:List Nat,eqCs (pvs (l.map fun i=>PV.int .u64 (W i))) (pvs (l.map fun i=>PV.int .u64 (V i)))=true↔∀ i∈l,W i=V i:=by
  intro l
  induction l with
  | nil=>simp [pvs,eqCs]
  | cons a l ih =>
   simp only [List.map_cons,pvs,eqCs,eqC,Bool.and_eq_true,ih,beq_iff_eq,List.mem_cons,forall_eq_or_imp]
   constructor
   ·rintro⟨h1,h2⟩;exact⟨by omega,h2⟩
   ·rintro⟨h1,h2⟩;exact⟨by omega,h2⟩
 rw [ws_eq,ws_eq,key]
 unfold sameW
 simp [List.mem_range]
end Go.AE
namespace Go.Proofs.YtcmepkfefoidcaaGreatDoor
open Go.AE
set_option maxRecDepth 100000
def tzR:Go.Shelf.Ren:=⟨fun|29=>169|n=>n,fun|0=>0|3=>3|4=>4|5=>5|22=>85|25=>150|54=>233|n=>n,fun|1=>0|n=>n⟩
theorem tzLays:Go.Proofs.Lays7.n29 Tryz.prog tzR where
 mixed:=by kernel_rfl
 f29:=Tryz.func169.trans (congrArg some (by kernel_rfl))
 t0:=Tryz.underlying0
 a0:=Tryz.isAgg0
 z0:=Tryz.sizeOf0
 v0:=Tryz.zeroValue0
 i0:=by kernel_rfl
 t3:=Tryz.underlying3
 a3:=Tryz.isAgg3
 z3:=Tryz.sizeOf3
 v3:=Tryz.zeroValue3
 i3:=by kernel_rfl
 t4:=Tryz.underlying4
 a4:=Tryz.isAgg4
 z4:=Tryz.sizeOf4
 v4:=Tryz.zeroValue4
 i4:=by kernel_rfl
 t5:=Tryz.underlying5
 a5:=Tryz.isAgg5
 z5:=Tryz.sizeOf5
 v5:=Tryz.zeroValue5
 i5:=by kernel_rfl
 t22:=Tryz.underlying85
 a22:=Tryz.isAgg85
 z22:=Tryz.sizeOf85
 v22:=Tryz.zeroValue85
 i22:=by kernel_rfl
 t25:=Tryz.underlying150
 a25:=Tryz.isAgg150
 z25:=Tryz.sizeOf150
 v25:=Tryz.zeroValue150
 i25:=by kernel_rfl
 t54:=Tryz.underlying233
 a54:=Tryz.isAgg233
 z54:=Tryz.sizeOf233
 g1:=by kernel_rfl
def cTz:AC:=fun args K k=>∃ x:Nat,args=[.p (.int .u64 (x:Int))]∧x<18446744073709551616∧k (.ret (.p (.int .i64 (Lib.ctz 64 x:Nat)))) K
theorem tz_ok:COk 169 cTz:=by
 rintro args K k ⟨x,rfl,hx,hk⟩
 refine ACalls.lib (ent rfl rfl) fun w m Args hS hV=>?_
 obtain⟨u,rfl,h1⟩:=vl1 hV
 have hT:TabAt (tzR.g 1) Lib.deBruijn64tab w:=fun j hj=>by
  have:=hS.gl.facts.deB.cell (g:=0) (by kernel_rfl) j (by unfold deTab;rw [List.length_map];exact hj)
  rw [show (tzR.g 1)=0 from rfl,this]
  congr 2
  unfold deTab
  rw [List.getD_eq_getElem?_getD,List.getD_eq_getElem?_getD,List.getElem?_map,List.getElem?_eq_getElem hj]
  rfl
 cases h1 with
 | p _ _ h=>cases h with
  | int=>exact (Any7.bits_TrailingZeros64 tzLays x hx w fun _=>hT).mono fun e w' ⟨h3,h4⟩=>⟨_,_,h3,by rw [h4];exact below_same w,.p _ _ (.int ..),hk⟩
end Go.Proofs.YtcmepkfefoidcaaGreatDoor
namespace Go.Proofs.YtcmepkfefoidcaaGreatDoor
open Go.AE Go.Bi
set_option maxRecDepth 100000
set_option maxHeartbeats 400000
theorem shl1 (n:Nat) (h:((n:Int).tmod 64).toNat=n % 64):IntKind.u64.wrap (1*2 ^ min ((n:Int).tmod 64).toNat IntKind.u64.bits)=((2 ^ (n % 64):Nat):Int):=by
 have h1:min (n % 64) IntKind.u64.bits=n % 64:=Nat.min_eq_left (by have:=Nat.mod_lt n (show 0<64 by decide);simp [IntKind.bits];omega)
 rw [h,h1,Int.one_mul,IntKind.wrap_u64]
 have:=two_lt n
 have e:((2:Int) ^ (n % 64))=((2 ^ (n % 64):Nat):Int):=by simp
 rw [e]
 generalize 2 ^ (n % 64)=x at *
 omega
theorem putC_one {α:Type} (cs:List α) (off:Nat) (v:α):putC 64 cs off [v]=setN cs off v:=rfl
theorem fBox_to {ty:Nat} {cs cs':List AV} {k:ABlk→Prop} (h:cs=cs') (hk:fB (.box ty cs') k):fB (.box ty cs) k:=h▸hk
def cSetW (g:(Nat→Nat)→Nat→Nat→Nat):AC:=fun args K k=>∃ W n,args=[setV W,intV ((n:Nat):Int)]∧wOk W∧n<4096∧k (.ret (setV (g W n))) K
theorem with_ok0:COk 71 (cSetW withW):=by
 rintro args K k ⟨W,n,rfl,hW,hn,hk⟩
 refine frame0P g0_ok 19 rfl fun Q hr=>?_
 have h4:(n:Int)<4096:=by omega
 have hq:IntKind.i64.wrap ((n:Int).tdiv 64)=((n / 64:Nat):Int):=by rw [Int.tdiv_eq_ediv_of_nonneg (by omega),w64 ⟨by omega,by omega⟩];omega
 have hq0:0≤IntKind.i64.wrap ((n:Int).tdiv 64):=by rw [hq];omega
 have hq1:IntKind.i64.wrap ((n:Int).tdiv 64)<64:=by rw [hq];omega
 have hqn:(IntKind.i64.wrap ((n:Int).tdiv 64)).toNat=n / 64:=by rw [hq];omega
 have hr0:0≤(n:Int).tmod 64:=by rw [Int.tmod_eq_emod_of_nonneg (by omega)];omega
 have hrn:((n:Int).tmod 64).toNat=n % 64:=by rw [Int.tmod_eq_emod_of_nonneg (by omega)];omega
 have hwn:nth (pvs (ws W)) (IntKind.i64.wrap ((n:Int).tdiv 64)).toNat=some (.p (.int .u64 (W (n / 64)))):=by rw [hqn];exact ws_nth (by omega)
 have hws:∀ v:Int,v=(withW W n (n / 64):Int)→putC 64 (pvs (ws W)) (IntKind.i64.wrap ((n:Int).tdiv 64)).toNat [.p (.int .u64 v)]=pvs (ws (withW W n)):=fun v hv=>by
  rw [hqn,putC_one];exact ws_set hv fun j hj=>by simp [withW,hj]
 have hbl:Nat.ble ((IntKind.i64.wrap ((n:Int).tdiv 64)).toNat+1) 64=true:=by rw [hqn];exact Nat.ble_eq_true_of_le (by omega)
 have hor:bits .or .u64 (W (n / 64):Int) (IntKind.u64.wrap (1*2 ^ min ((n:Int).tmod 64).toNat IntKind.u64.bits))=(withW W n (n / 64):Int):=by
  rw [shl1 n hrn,bits_or_u64_nat _ _ (hW _) (two_lt n)]
  simp [withW]
 conv=>whnf
 refine two_true (decide_eq_true h4) ?_
 conv=>whnf
 refine Chk.mk (by decide) ?_
 conv=>whnf
 refine Chk.mk ⟨hq0,hq1⟩ ?_
 conv=>whnf
 conv in (nth _ _)=>tactic=>exact hwn
 conv=>whnf
 refine Chk.mk (by decide) ?_
 conv=>whnf
 refine Chk.mk hr0 ?_
 conv=>whnf
 refine Chk.mk ⟨hq0,hq1⟩ ?_
 conv=>whnf
 conv in (Nat.ble _ _)=>tactic=>exact hbl
 refine fBox_to (cs':=pvs (ws (withW W n))) ?_ ?_
 ·refine Eq.trans (congrArg (fun c=>putC 64 (pvs (ws W)) (IntKind.i64.wrap ((n:Int).tdiv 64)).toNat (AV.cells c)) (?_:_=AV.p (.int .u64 (withW W n (n / 64):Int)))) (hws _ rfl)
  (conv=>lhs;whnf)
  exact congrArg (fun v=>AV.p (.int .u64 v)) hor
 conv=>whnf
 exact hr _ _ rfl hk
theorem without_ok0:COk 74 (cSetW withoutW):=by
 rintro args K k ⟨W,n,rfl,hW,hn,hk⟩
 refine frame0P g0_ok 19 rfl fun Q hr=>?_
 have h4:(n:Int)<4096:=by omega
 have hq:IntKind.i64.wrap ((n:Int).tdiv 64)=((n / 64:Nat):Int):=by rw [Int.tdiv_eq_ediv_of_nonneg (by omega),w64 ⟨by omega,by omega⟩];omega
 have hq0:0≤IntKind.i64.wrap ((n:Int).tdiv 64):=by rw [hq];omega
 have hq1:IntKind.i64.wrap ((n:Int).tdiv 64)<64:=by rw [hq];omega
 have hqn:(IntKind.i64.wrap ((n:Int).tdiv 64)).toNat=n / 64:=by rw [hq];omega
 have hr0:0≤(n:Int).tmod 64:=by rw [Int.tmod_eq_emod_of_nonneg (by omega)];omega
 have hrn:((n:Int).tmod 64).toNat=n % 64:=by rw [Int.tmod_eq_emod_of_nonneg (by omega)];omega
 have hwn:nth (pvs (ws W)) (IntKind.i64.wrap ((n:Int).tdiv 64)).toNat=some (.p (.int .u64 (W (n / 64)))):=by rw [hqn];exact ws_nth (by omega)
 have hws:∀ v:Int,v=(withoutW W n (n / 64):Int)→putC 64 (pvs (ws W)) (IntKind.i64.wrap ((n:Int).tdiv 64)).toNat [.p (.int .u64 v)]=pvs (ws (withoutW W n)):=fun v hv=>by
  rw [hqn,putC_one];exact ws_set hv fun j hj=>by simp [withoutW,hj]
 have hbl:Nat.ble ((IntKind.i64.wrap ((n:Int).tdiv 64)).toNat+1) 64=true:=by rw [hqn];exact Nat.ble_eq_true_of_le (by omega)
 have hor:bits .andNot .u64 (W (n / 64):Int) (IntKind.u64.wrap (1*2 ^ min ((n:Int).tmod 64).toNat IntKind.u64.bits))=(withoutW W n (n / 64):Int):=by
  rw [shl1 n hrn,u64_andNot_nat _ _ (hW _) (two_lt n)]
  simp [withoutW]
 conv=>whnf
 refine two_true (decide_eq_true h4) ?_
 conv=>whnf
 refine Chk.mk (by decide) ?_
 conv=>whnf
 refine Chk.mk ⟨hq0,hq1⟩ ?_
 conv=>whnf
 conv in (nth _ _)=>tactic=>exact hwn
 conv=>whnf
 refine Chk.mk (by decide) ?_
 conv=>whnf
 refine Chk.mk hr0 ?_
 conv=>whnf
 refine Chk.mk ⟨hq0,hq1⟩ ?_
 conv=>whnf
 conv in (Nat.ble _ _)=>tactic=>exact hbl
 refine fBox_to (cs':=pvs (ws (withoutW W n))) ?_ ?_
 ·refine Eq.trans (congrArg (fun c=>putC 64 (pvs (ws W)) (IntKind.i64.wrap ((n:Int).tdiv 64)).toNat (AV.cells c)) (?_:_=AV.p (.int .u64 (withoutW W n (n / 64):Int)))) (hws _ rfl)
  (conv=>lhs;whnf)
  exact congrArg (fun v=>AV.p (.int .u64 v)) hor
 conv=>whnf
 exact hr _ _ rfl hk
def cSetN (g:(Nat→Bool)→Nat→Nat→Bool):AC:=fun args K k=>∃ S n,args=[setS S,intV ((n:Nat):Int)]∧n<4096∧k (.ret (setS (g S n))) K
theorem with_ok:COk 71 (cSetN insS):=by
 rintro args K k ⟨S,n,rfl,hn,hk⟩
 refine with_ok0 _ K k ⟨wordsOf S,n,rfl,wordsOk S,hn,?_⟩
 rw [setV_S (wOk_with (wordsOk S) n) (S:=insS S n) fun m _=>by rw [has_with,has_words];rfl]
 exact hk
theorem without_ok:COk 74 (cSetN remS):=by
 rintro args K k ⟨S,n,rfl,hn,hk⟩
 refine without_ok0 _ K k ⟨wordsOf S,n,rfl,wordsOk S,hn,?_⟩
 rw [setV_S (wOk_without (wordsOk S) n) (S:=remS S n) fun m _=>by rw [has_without,has_words];rfl]
 exact hk
def andT (W V:Nat→Nat) (i j:Nat):Nat:=if j<i then W j &&& V j else W j
def boxW (W:Nat→Nat):ABlk:=.box 88 (pvs (ws W))
theorem andT_ok {W V:Nat→Nat} (h:wOk W) (i:Nat):wOk (andT W V i):=fun j=>by
 unfold andT
 split
 ·exact Nat.lt_of_le_of_lt Nat.and_le_left (h j)
 ·exact h j
theorem and_ok0 (W V:Nat→Nat) (hW:wOk W) (hV:wOk V) (K:List ABlk) (k:AO→List ABlk→Prop) (hk:k (.ret (setV (andT W V 64))) K):ACalls Tryz.prog 72 [setV W,setV V] K k:=by
 refine frame0P g0_ok 19 rfl fun Q hr=>?_
 conv=>whnf
 refine loop_up (ι:=Nat) [2,4,8] (fun i=>[(9,intV i)]) (fun i=>[(0,boxW (andT W V i))]) (fun i=>i≤64) (fun i=>64 - i) 0 ⟨AV.le_refl _,trivial⟩
  ⟨upLe1 rfl (ABlk.le_of_eq (congrArg (fun f=>boxW f) (funext fun j=>by simp [andT]))),trivial⟩ (Nat.zero_le _) ?_
 rintro Y hle i hi ih
 by_cases h:i<64
 ·have h':(i:Int)<64:=by omega
  have h0:(0:Int)≤(i:Int):=by omega
  have hw1:=wzz (i:=i) (by omega)
  have hv:nth (pvs (ws V)) i=some (.p (.int .u64 (V i))):=ws_nth h
  have hw:nth (pvs (ws (andT W V i))) i=some (.p (.int .u64 (W i))):=by rw [ws_nth h];simp [andT]
  have hbl:Nat.ble (i+1) 64=true:=Nat.ble_eq_true_of_le (by omega)
  have hws:∀ v:Int,v=((W i &&& V i:Nat):Int)→putC 64 (pvs (ws (andT W V i))) i [.p (.int .u64 v)]=pvs (ws (andT W V (i+1))):=fun v hv=>by
   rw [putC_one]
   refine ws_set (by rw [hv];simp [andT]) fun j hj=>?_
   unfold andT
   by_cases hji:j<i
   ·rw [if_pos hji,if_pos (by omega)]
   ·rw [if_neg hji,if_neg (by omega)]
  have hor:bits .and .u64 (W i:Int) (V i:Int)=((W i &&& V i:Nat):Int):=bits_and_u64_nat _ _ (hW _) (hV _)
  conv=>whnf
  refine two_true (decide_eq_true h') ?_
  conv=>whnf
  refine Chk.mk ⟨h0,h'⟩ ?_
  conv=>whnf
  conv in (nth _ _)=>tactic=>exact hv
  conv=>whnf
  refine Chk.mk ⟨h0,h'⟩ ?_
  conv=>whnf
  conv in (nth _ _)=>tactic=>exact hw
  conv=>whnf
  refine Chk.mk ⟨h0,h'⟩ ?_
  conv=>whnf
  conv in (Nat.ble _ _)=>tactic=>exact hbl
  refine fBox_to (cs':=pvs (ws (andT W V (i+1)))) ?_ ?_
  ·refine Eq.trans (congrArg (fun c=>putC 64 (pvs (ws (andT W V i))) i (AV.cells c)) (?_:_=AV.p (.int .u64 ((W i &&& V i:Nat):Int)))) (hws _ rfl)
   (conv=>lhs;whnf)
   exact congrArg (fun v=>AV.p (.int .u64 v)) hor
  conv=>whnf
  refine hle _ _ (Le.env ?_ ?_) (ih (i+1) (by omega) (by omega))
  ·skip
   repeat' (first|exact trivial|((conv=>whnf);first|exact trivial|refine⟨AV.le_refl _,?_⟩|refine⟨ABlk.le_refl _,?_⟩|(refine⟨AV.le_of_eq ?_,?_⟩;focus ((first|exact congrArg intV hw1|fail);done))|(refine⟨ABlk.le_of_eq ?_,?_⟩;focus ((first|exact congrArg intV hw1|fail);done))|fail)|fail)
  ·skip
   repeat' (first|exact trivial|((conv=>whnf);first|exact trivial|refine⟨AV.le_refl _,?_⟩|refine⟨ABlk.le_refl _,?_⟩|fail)|fail)
 ·obtain rfl:i=64:=by omega
  conv=>whnf
  exact hr _ _ rfl hk
theorem and_ok:COk 72 (fun args K k=>∃ S R,args=[setS S,setS R]∧k (.ret (setS (andS S R))) K):=by
 rintro args K k ⟨S,R,rfl,hk⟩
 refine and_ok0 (wordsOf S) (wordsOf R) (wordsOk S) (wordsOk R) K k ?_
 rw [setV_S (andT_ok (wordsOk S) 64) (S:=andS S R) fun m hm=>?_]
 ·exact hk
 ·have:hasW (andT (wordsOf S) (wordsOf R) 64) m=hasW (andW (wordsOf S) (wordsOf R)) m:=by
   unfold hasW andT andW
   rw [if_pos (by omega)]
  rw [this,has_and,has_words,has_words];rfl
theorem same_ok:COk 73 (fun args K k=>∃ S R,args=[setS S,setS R]∧∀ b,(b=true↔∀ m,m<4096→S m=R m)→k (.ret (.p (.bool b))) K):=by
 rintro args K k ⟨S,R,rfl,hk⟩
 refine frame0P g0_ok 19 rfl fun Q hr=>?_
 have hk:=hk (eqCs (pvs (ws (wordsOf S))) (pvs (ws (wordsOf R)))) (by
  rw [eqCs_ws,same_iff (wordsOk S) (wordsOk R)]
  simp only [has_words])
 conv=>whnf
 exact hr _ _ rfl hk
theorem bit_of {x s:Nat} (h:x<18446744073709551616):(bits .and .u64 ((x / 2 ^ s:Nat):Int) 1==1)=x.testBit s:=by
 have h1:x / 2 ^ s<18446744073709551616:=Nat.lt_of_le_of_lt (Nat.div_le_self _ _) h
 have:=bits_and_u64_nat (x / 2 ^ s) 1 h1 (by decide)
 rw [show ((1:Nat):Int)=1 from rfl] at this
 rw [this,Nat.and_one_is_mod]
 rw [Nat.testBit_eq_decide_div_mod_eq]
 by_cases e:x / 2 ^ s % 2=1
 ·rw [e];simp
 ·have:x / 2 ^ s % 2=0:=by omega
  rw [this];simp
def cHas:AC:=fun args K k=>∃ S n,args=[setS S,intV ((n:Nat):Int)]∧n<4096∧k (.ret (.p (.bool (S n)))) K
theorem has_ok:COk 51 cHas:=by
 rintro args K k ⟨S,n,rfl,hn,hk⟩
 refine frame0P g0_ok 19 rfl fun Q hr=>?_
 have h4:(n:Int)<4096:=by omega
 have hq:IntKind.i64.wrap ((n:Int).tdiv 64)=((n / 64:Nat):Int):=by rw [Int.tdiv_eq_ediv_of_nonneg (by omega),w64 ⟨by omega,by omega⟩];omega
 have hq0:0≤IntKind.i64.wrap ((n:Int).tdiv 64):=by rw [hq];omega
 have hq1:IntKind.i64.wrap ((n:Int).tdiv 64)<64:=by rw [hq];omega
 have hqn:(IntKind.i64.wrap ((n:Int).tdiv 64)).toNat=n / 64:=by rw [hq];omega
 have hr0:0≤(n:Int).tmod 64:=by rw [Int.tmod_eq_emod_of_nonneg (by omega)];omega
 have hrn:((n:Int).tmod 64).toNat=n % 64:=by rw [Int.tmod_eq_emod_of_nonneg (by omega)];omega
 have hwn:nth (pvs (ws (wordsOf S))) (IntKind.i64.wrap ((n:Int).tdiv 64)).toNat=some (.p (.int .u64 (wordsOf S (n / 64)))):=by rw [hqn];exact ws_nth (by omega)
 have hmin:min (n % 64) IntKind.u64.bits=n % 64:=Nat.min_eq_left (by have:=Nat.mod_lt n (show 0<64 by decide);simp [IntKind.bits];omega)
 have hb:(bits .and .u64 ((wordsOf S (n / 64):Int).fdiv (2 ^ min ((n:Int).tmod 64).toNat IntKind.u64.bits)) 1==1)=S n:=by
  have e:((wordsOf S (n / 64):Nat):Int).fdiv (2 ^ min ((n:Int).tmod 64).toNat IntKind.u64.bits)=((wordsOf S (n / 64) / 2 ^ (n % 64):Nat):Int):=by
   rw [hrn,hmin,show ((2:Int) ^ (n % 64))=((2 ^ (n % 64):Nat):Int) by simp]
   exact (Int.ofNat_fdiv _ _).symm
  rw [e,bit_of (wordsOk S _)]
  exact has_words S n
 conv=>whnf
 refine two_true (decide_eq_true h4) ?_
 conv=>whnf
 refine Chk.mk (by decide) ?_
 conv=>whnf
 refine Chk.mk ⟨hq0,hq1⟩ ?_
 conv=>whnf
 conv in (nth _ _)=>tactic=>exact hwn
 conv=>whnf
 refine Chk.mk (by decide) ?_
 conv=>whnf
 refine Chk.mk hr0 ?_
 conv=>whnf
 exact hr _ _ rfl (ret_eq hk (congrArg (fun b=>AV.p (.bool b)) hb.symm))
def cOnes:AC:=fun args K k=>∃ x y:Nat,args=[.p (.int .u64 (x:Int))]∧x<18446744073709551616∧popB 64 x=y∧k (.ret (intV (y:Nat))) K
theorem ones_ok:COk 111 cOnes:=by
 rintro args K k ⟨x,y,rfl,hx,rfl,hk⟩
 refine frame0P g0_ok 19 rfl fun Q hr=>?_
 conv=>whnf
 repeat' (refine Chk.mk (by decide) ?_;conv=>whnf)
 refine hr _ _ rfl (ret_eq hk (congrArg intV ?_))
 rw [← ones64_eq]
 have A1:∀ a:Nat,a<18446744073709551616→bits .and .u64 (a:Int) 6148914691236517205=((a &&& 6148914691236517205:Nat):Int):=fun a h1=>bits_and_u64_nat a 6148914691236517205 h1 (by decide)
 have A2:∀ a:Nat,a<18446744073709551616→bits .and .u64 (a:Int) 3689348814741910323=((a &&& 3689348814741910323:Nat):Int):=fun a h1=>bits_and_u64_nat a 3689348814741910323 h1 (by decide)
 have A3:∀ a:Nat,a<18446744073709551616→bits .and .u64 (a:Int) 1085102592571150095=((a &&& 1085102592571150095:Nat):Int):=fun a h1=>bits_and_u64_nat a 1085102592571150095 h1 (by decide)
 have D:∀ (a s:Nat),((a:Int)).fdiv (2 ^ s)=((a / 2 ^ s:Nat):Int):=fun a s=>by
  rw [show ((2:Int) ^ s)=((2 ^ s:Nat):Int) by simp]
  exact (Int.ofNat_fdiv _ _).symm
 have U:∀ a:Nat,IntKind.u64.wrap (a:Int)=((a % 18446744073709551616:Nat):Int):=fun a=>by rw [IntKind.wrap_u64];omega
 obtain⟨y1,h1⟩:∃ y,y=((x / 2) &&& 6148914691236517205)+(x &&& 6148914691236517205):=⟨_,rfl⟩
 obtain⟨y2,h2⟩:∃ y,y=((y1 / 4) &&& 3689348814741910323)+(y1 &&& 3689348814741910323):=⟨_,rfl⟩
 obtain⟨y3,h3⟩:∃ y,y=(y2 / 16+y2) &&& 1085102592571150095:=⟨_,rfl⟩
 obtain⟨y4,h4⟩:∃ y,y=(y3+y3 / 256) % 18446744073709551616:=⟨_,rfl⟩
 obtain⟨y5,h5⟩:∃ y,y=(y4+y4 / 65536) % 18446744073709551616:=⟨_,rfl⟩
 obtain⟨y6,h6⟩:∃ y,y=(y5+y5 / 4294967296) % 18446744073709551616:=⟨_,rfl⟩
 have hones:ones64 x=y6 % 128:=by unfold ones64;simp only [← h1,← h2,← h3,← h4,← h5,← h6]
 have b1:y1≤12297829382473034410:=by
  have q1:(x / 2) &&& 6148914691236517205≤6148914691236517205:=Nat.and_le_right
  have q2:x &&& 6148914691236517205≤6148914691236517205:=Nat.and_le_right
  omega
 have b2:y2≤7378697629483820646:=by
  have q1:(y1 / 4) &&& 3689348814741910323≤3689348814741910323:=Nat.and_le_right
  have q2:y1 &&& 3689348814741910323≤3689348814741910323:=Nat.and_le_right
  omega
 have b3:y3≤1085102592571150095:=h3▸Nat.and_le_right
 have b4:y4≤1090000000000000000:=by have q:=Nat.mod_le (y3+y3 / 256) 18446744073709551616;rw [← h4] at q;clear h1 h2 h3 h4 h5 h6;omega
 have b5:y5≤1091000000000000000:=by have q:=Nat.mod_le (y4+y4 / 65536) 18446744073709551616;rw [← h5] at q;clear h1 h2 h3 h4 h5 h6;omega
 have b6:y6≤1092000000000000000:=by have q:=Nat.mod_le (y5+y5 / 4294967296) 18446744073709551616;rw [← h6] at q;clear h1 h2 h3 h4 h5 h6;omega
 have e1:IntKind.u64.wrap (bits .and .u64 ((x:Int).fdiv (2 ^ min (Int.toNat 1) IntKind.u64.bits)) 6148914691236517205+bits .and .u64 (x:Int) 6148914691236517205)=(y1:Int):=by
  rw [show min (Int.toNat 1) IntKind.u64.bits=1 by decide,D,A1 _ (by omega),A1 x hx,← Int.natCast_add,U]
  simp only [Nat.pow_one]
  omega
 have e2:IntKind.u64.wrap (bits .and .u64 ((y1:Int).fdiv (2 ^ min (Int.toNat 2) IntKind.u64.bits)) 3689348814741910323+bits .and .u64 (y1:Int) 3689348814741910323)=(y2:Int):=by
  rw [show min (Int.toNat 2) IntKind.u64.bits=2 by decide,D,A2 _ (by omega),A2 y1 (by omega),← Int.natCast_add,U]
  simp only [show (2:Nat) ^ 2=4 by decide]
  omega
 have e3:bits .and .u64 (IntKind.u64.wrap ((y2:Int).fdiv (2 ^ min (Int.toNat 4) IntKind.u64.bits)+(y2:Int))) 1085102592571150095=(y3:Int):=by
  rw [show min (Int.toNat 4) IntKind.u64.bits=4 by decide,D,← Int.natCast_add,U,A3 _ (by omega),h3]
  simp only [show (2:Nat) ^ 4=16 by decide]
  rw [Nat.mod_eq_of_lt (by omega)]
 have e4:IntKind.u64.wrap ((y3:Int)+(y3:Int).fdiv (2 ^ min (Int.toNat 8) IntKind.u64.bits))=(y4:Int):=by
  rw [show min (Int.toNat 8) IntKind.u64.bits=8 by decide,D,← Int.natCast_add,U,h4]
 have e5:IntKind.u64.wrap ((y4:Int)+(y4:Int).fdiv (2 ^ min (Int.toNat 16) IntKind.u64.bits))=(y5:Int):=by
  rw [show min (Int.toNat 16) IntKind.u64.bits=16 by decide,D,← Int.natCast_add,U,h5]
 have e6:IntKind.u64.wrap ((y5:Int)+(y5:Int).fdiv (2 ^ min (Int.toNat 32) IntKind.u64.bits))=(y6:Int):=by
  rw [show min (Int.toNat 32) IntKind.u64.bits=32 by decide,D,← Int.natCast_add,U,h6]
 have e7:bits .and .i64 (IntKind.i64.wrap (y6:Int)) 127=((y6 % 128:Nat):Int):=by
  rw [w64 ⟨by omega,by omega⟩]
  have q1:(BitVec.ofInt 64 (y6:Int)).toNat=y6:=by
   rw [BitVec.ofInt_natCast,BitVec.toNat_ofNat];exact Nat.mod_eq_of_lt (by omega)
  have q2:(BitVec.ofInt 64 (127:Int)).toNat=127:=by decide
  show IntKind.i64.wrap ((BitVec.ofInt 64 (y6:Int) &&& BitVec.ofInt 64 (127:Int)).toNat:Int)=_
  rw [BitVec.toNat_and,q1,q2,show y6 &&& 127=y6 % 128 from Nat.and_two_pow_sub_one_eq_mod y6 7,w64 ⟨by omega,by omega⟩]
 rw [e1,e2,e3,e4,e5,e6,e7,hones]
def cNext:AC:=fun args K k=>∃ S n,args=[setS S,intV ((n:Nat):Int)]∧n≤4096∧∀ r,NextIs (wordsOf S) n r→k (.ret (intV r)) K
def gTz:AG:=gput 169 cTz g0
theorem gTz_ok:GOk Tryz.prog gTz:=gput_ok tz_ok g0_ok
theorem next_ok:COk 110 cNext:=by
 rintro args K k ⟨S,n0,rfl,hn0,hk⟩
 refine frame0P gTz_ok 19 rfl fun Q hr=>?_
 have hmx:(if (0:Int)>(n0:Int) then 0 else (n0:Int))=(n0:Int):=by rw [if_neg (by omega)]
 conv=>whnf
 refine loop_up (ι:=Nat) [2] (fun n=>[(1,intV n)]) (fun _=>[]) (fun n=>n0≤n∧n≤4096∧∀ k,n0≤k→k<n→hasW (wordsOf S) k=false) (fun n=>4096 - n) n0 ⟨AV.le_of_eq (congrArg intV hmx),trivial⟩
  trivial ⟨Nat.le_refl _,hn0,fun k h1 h2=>by omega⟩ ?_
 rintro Y hle n ⟨h1,h2,hsk⟩ ih
 by_cases h:n<4096
 ·have h4:(n:Int)<4096:=by omega
  have hq:IntKind.i64.wrap ((n:Int).tdiv 64)=((n / 64:Nat):Int):=by rw [Int.tdiv_eq_ediv_of_nonneg (by omega),w64 ⟨by omega,by omega⟩];omega
  have hq0:0≤IntKind.i64.wrap ((n:Int).tdiv 64):=by rw [hq];omega
  have hq1:IntKind.i64.wrap ((n:Int).tdiv 64)<64:=by rw [hq];omega
  have hqn:(IntKind.i64.wrap ((n:Int).tdiv 64)).toNat=n / 64:=by rw [hq];omega
  have hr0:0≤(n:Int).tmod 64:=by rw [Int.tmod_eq_emod_of_nonneg (by omega)];omega
  have hrn:((n:Int).tmod 64).toNat=n % 64:=by rw [Int.tmod_eq_emod_of_nonneg (by omega)];omega
  have hwn:nth (pvs (ws (wordsOf S))) (IntKind.i64.wrap ((n:Int).tdiv 64)).toNat=some (.p (.int .u64 (wordsOf S (n / 64)))):=by rw [hqn];exact ws_nth (by omega)
  have hmin:min (n % 64) IntKind.u64.bits=n % 64:=Nat.min_eq_left (by have:=Nat.mod_lt n (show 0<64 by decide);simp [IntKind.bits];omega)
  have hv:((wordsOf S (n / 64):Nat):Int).fdiv (2 ^ min ((n:Int).tmod 64).toNat IntKind.u64.bits)=((wordsOf S (n / 64) / 2 ^ (n % 64):Nat):Int):=by
   rw [hrn,hmin,show ((2:Int) ^ (n % 64))=((2 ^ (n % 64):Nat):Int) by simp]
   exact (Int.ofNat_fdiv _ _).symm
  obtain⟨x,hx⟩:∃ x,wordsOf S (n / 64) / 2 ^ (n % 64)=x:=⟨_,rfl⟩
  have hxl:x<18446744073709551616:=hx▸Nat.lt_of_le_of_lt (Nat.div_le_self _ _) (wordsOk S _)
  rw [hx] at hv
  conv=>whnf
  refine two_true (decide_eq_true h4) ?_
  conv=>whnf
  refine Chk.mk (by decide) ?_
  conv=>whnf
  refine Chk.mk ⟨hq0,hq1⟩ ?_
  conv=>whnf
  conv in (nth _ _)=>tactic=>exact hwn
  conv=>whnf
  refine Chk.mk (by decide) ?_
  conv=>whnf
  refine Chk.mk hr0 ?_
  conv=>whnf
  refine two_ne (fun hne=>?_) (fun he=>?_)
  ·have hx0:x≠0:=fun e=>hne (by rw [hv,e];rfl)
   have hnx:=next_some (wordsOk S) h h1 hsk (by rw [hx];exact hx0)
   rw [hx] at hnx
   have hc:Lib.ctz 64 x<64:=(ctz_bit hx0 hxl).2.1
   have hk:=hk _ hnx
   conv=>whnf
   refine⟨x,congrArg (fun v=>[AV.p (.int .u64 v)]) hv,hxl,?_⟩
   conv=>whnf
   exact hr _ _ rfl (ret_eq hk (congrArg intV (w64 ⟨by omega,by omega⟩).symm))
  ·have hx0:x=0:=by have he:=hv.symm.trans he;omega
   have hn2:=next_skip hsk (by rw [hx];exact hx0)
   have hw2:IntKind.i64.wrap (IntKind.i64.wrap (IntKind.i64.wrap ((n:Int).tdiv 64)+1)*64)=(((n / 64+1)*64:Nat):Int):=by
    rw [hq,w64 (n:=((n / 64:Nat):Int)+1) ⟨by omega,by omega⟩,w64 ⟨by omega,by omega⟩];omega
   conv=>whnf
   refine Chk.mk (by decide) ?_
   conv=>whnf
   refine hle _ _ (Le.env ?_ ?_) (ih ((n / 64+1)*64) (by omega) ⟨by omega,by omega,hn2⟩)
   ·skip
    repeat' (first|exact trivial|((conv=>whnf);first|exact trivial|refine⟨AV.le_refl _,?_⟩|refine⟨ABlk.le_refl _,?_⟩|(refine⟨AV.le_of_eq ?_,?_⟩;focus ((first|exact congrArg intV hw2|fail);done))|(refine⟨ABlk.le_of_eq ?_,?_⟩;focus ((first|exact congrArg intV hw2|fail);done))|fail)|fail)
   ·skip
    repeat' (first|exact trivial|((conv=>whnf);first|exact trivial|refine⟨AV.le_refl _,?_⟩|refine⟨ABlk.le_refl _,?_⟩|fail)|fail)
 ·have h4:¬ (n:Int)<4096:=by omega
  have hk:=hk _ (next_none (by omega) hsk)
  conv=>whnf
  refine two_false (decide_eq_false h4) ?_
  conv=>whnf
  exact hr _ _ rfl hk
theorem listS_none {S:Nat→Bool} {p:Nat} {r:Int} (hp:p≤4096) (h:NextIs (wordsOf S) p r) (hr:r=-1):listS S 4096=listS S p:=by
 rw [← listS_eq,← listS_eq]
 exact listW_skip hp fun k h1 h2=>h.none hr k h1 h2
theorem listS_some {S:Nat→Bool} {p:Nat} {r:Int} (h:NextIs (wordsOf S) p r) (hr:r≠-1):∃ m:Nat,r=m∧m<4096∧p≤m∧listS S (m+1)=listS S p++[m]:=by
 obtain⟨m,h1,h2,h3,h4,h5⟩:=h.some hr
 refine⟨m,h1,h3,h2,?_⟩
 rw [← listS_eq,← listS_eq,listW_succ,listW_skip h2 h5,if_pos h4]
def natL (l:List Nat):List Int:=l.map fun n:Nat=>(n:Int)
theorem natL_len (l:List Nat):(natL l).length=l.length:=List.length_map ..
theorem listS_len (S:Nat→Bool) (n:Nat):(listS S n).length≤n:=by
 have:=List.length_filter_le S (List.range n)
 rwa [List.length_range] at this
def cList:AC:=fun args K k=>∃ S,args=[setS S]∧k (.ret (intsV (natL (listS S 4096)))) K
def gNx:AG:=gput 110 cNext g0
theorem gNx_ok:GOk Tryz.prog gNx:=gput_ok next_ok g0_ok
structure LiI where
 p:Nat
 r:Int
theorem list_ok:COk 75 cList:=by
 rintro args K k ⟨S,rfl,hk⟩
 refine frameZ (K0:=[]) (X:=K) gNx_ok 19 rfl trivial fun Q hr=>?_
 conv=>whnf
 refine⟨S,0,rfl,by decide,fun r0 hr0=>?_⟩
 conv=>whnf
 refine loop_nil (ι:=LiI) 3 1 (fun i=>[intV ((natL []).getD i 0)]) (fun c=>⟨[(4,intV c.r),(3,.slr 1 0 0 (natL (listS S c.p)).length),(1,.ptr 0 0 1 0 0)],[boxW (wordsOf S),intR 0 (natL (listS S c.p))]⟩) (fun c=>c.p≤4096∧NextIs (wordsOf S) c.p c.r) (fun c=>4096 - c.p) ⟨0,r0⟩ [boxW (wordsOf S)]
  rfl ⟨.inl (AV.le_refl _),.inr ⟨rfl,rfl⟩,.inl (AV.le_refl _),trivial⟩ ⟨.inl (ABlk.le_refl _),trivial⟩ rfl ⟨Nat.zero_le _,hr0⟩ ?_
 rintro Y hle ⟨p,r⟩ ⟨hp,hn⟩ ih
 have hll:=listS_len S p
 rw [← natL_len] at hll
 by_cases hr1:r=-1
 ·have h0:¬ (r≥0):=by omega
  rw [listS_none hp hn hr1] at hk
  conv=>whnf
  refine two_false (decide_eq_false h0) ?_
  conv=>whnf
  exact hr _ _ (intsV (natL (listS S p))) [] _ (Wk1.fzL rfl rfl) rfl rfl trivial hk
 ·obtain⟨m,rfl,hm,hpm,hl⟩:=listS_some hn hr1
  replace hp:p≤4096:=hp
  replace hpm:p≤m:=hpm
  have hw1:=wzz (i:=m) (by omega)
  have hl2:natL (listS S (m+1))=natL (listS S p)++[(m:Int)]:=by rw [hl];simp [natL]
  have hl3:(natL (listS S (m+1))).length=(natL (listS S p)).length+1:=by rw [hl2];simp
  conv=>whnf
  refine Chk.mk ⟨rfl,rfl,rfl,allLt_ok ⟨trivial,rfl⟩⟩ ?_
  conv=>whnf
  refine Chk.mk ⟨rfl,rfl,rfl,rfl,(by show ((natL (listS S p)).length+1)*8≤140737488355328;omega),(by show (natL (listS S p)).length+1≤9223372036854775807;omega)⟩ ?_
  conv=>whnf
  refine⟨S,m+1,congrArg (fun v=>[setS S,intV v]) hw1,by omega,fun r' hr'=>?_⟩
  conv=>whnf
  refine hle _ _ (Le.cutEnv 2 rfl rfl ⟨rfl,catI_cl (fun _ _=>rfl) (oneI_cl rfl),trivial⟩ ?_ ?_) (ih ⟨m+1,r'⟩ (by show 4096 - (m+1)<4096 - p;omega) ⟨(by show m+1≤4096;omega),hr'⟩)
  ·skip
   repeat' (first|exact trivial|((conv=>whnf);first|exact trivial|refine⟨AV.le_refl _,?_⟩|refine⟨ABlk.le_refl _,?_⟩|(refine⟨AV.le_of_eq ?_,?_⟩;focus ((first|exact congrArg (fun n=>AV.slr 1 0 0 n) hl3.symm|fail);done))|(refine⟨ABlk.le_of_eq ?_,?_⟩;focus ((first|exact congrArg (fun n=>AV.slr 1 0 0 n) hl3.symm|fail);done))|fail)|fail)
  ·skip
   (conv=>whnf);refine⟨ABlk.le_refl _,?_⟩
   (conv=>whnf);refine⟨hl2▸intR_one rfl rfl,?_⟩
   (conv=>whnf);exact trivial
def gOn:AG:=gput 111 cOnes g0
theorem gOn_ok:GOk Tryz.prog gOn:=gput_ok ones_ok g0_ok
def cCount:AC:=fun args K k=>∃ S,args=[setS S]∧k (.ret (intV ((listS S 4096).length:Nat))) K
theorem count_le (W:Nat→Nat) (n:Nat):countW W n≤64*n:=by
 induction n with
 | zero=>exact Nat.le_refl _
 | succ n ih=>simp only [countW];have:=popB_le 64 (W n);omega
theorem count_ok:COk 76 cCount:=by
 rintro args K k ⟨S,rfl,hk⟩
 refine frame0P gOn_ok 19 rfl fun Q hr=>?_
 conv=>whnf
 refine loop_up (ι:=Nat×Nat) [7] (fun c=>[(3,intV c.2),(8,intV c.1)]) (fun _=>[]) (fun c=>c.1≤64∧countW (wordsOf S) c.1=c.2) (fun c=>64 - c.1) (0,0) ⟨AV.le_refl _,AV.le_refl _,trivial⟩ trivial ⟨Nat.zero_le _,rfl⟩ ?_
 rintro Y hle ⟨i,c⟩ ⟨hi,hc⟩ ih
 by_cases h:i<64
 ·have h':(i:Int)<64:=by omega
  have h0:(0:Int)≤(i:Int):=by omega
  have hw1:=wzz (i:=i) (by omega)
  have hv:nth (pvs (ws (wordsOf S))) i=some (.p (.int .u64 (wordsOf S i))):=ws_nth h
  have hcl:=count_le (wordsOf S) i
  have hpl:=popB_le 64 (wordsOf S i)
  have hcc:countW (wordsOf S) (i+1)=countW (wordsOf S) i+popB 64 (wordsOf S i):=rfl
  obtain⟨y,hy⟩:∃ y,popB 64 (wordsOf S i)=y:=⟨_,rfl⟩
  simp only at hc
  rw [hy,hc] at hcc
  rw [hy] at hpl
  rw [hc] at hcl
  have hw2:IntKind.i64.wrap ((c:Int)+(y:Int))=((c+y:Nat):Int):=by
   rw [w64 ⟨by omega,by omega⟩];omega
  conv=>whnf
  refine two_true (decide_eq_true h') ?_
  conv=>whnf
  refine Chk.mk ⟨h0,h'⟩ ?_
  conv=>whnf
  conv in (nth _ _)=>tactic=>exact hv
  conv=>whnf
  refine⟨_,y,rfl,wordsOk S i,hy,?_⟩
  conv=>whnf
  refine hle _ _ (Le.env ?_ ?_) (ih (i+1,c+y) (by simp only;omega) ⟨by simp only;omega,hcc⟩)
  ·skip
   repeat' (first|exact trivial|((conv=>whnf);first|exact trivial|refine⟨AV.le_refl _,?_⟩|refine⟨ABlk.le_refl _,?_⟩|(refine⟨AV.le_of_eq ?_,?_⟩;focus ((first|exact congrArg intV hw1|exact congrArg intV hw2|fail);done))|(refine⟨ABlk.le_of_eq ?_,?_⟩;focus ((first|exact congrArg intV hw1|exact congrArg intV hw2|fail);done))|fail)|fail)
  ·skip
   repeat' (first|exact trivial|((conv=>whnf);first|exact trivial|refine⟨AV.le_refl _,?_⟩|refine⟨ABlk.le_refl _,?_⟩|fail)|fail)
 ·obtain rfl:i=64:=by simp only at hi h;omega
  have hc2:=count_eq (wordsOf S) 64
  rw [listS_eq] at hc2
  have hc3:(listS S 4096).length=c:=hc2.symm.trans hc
  rw [hc3] at hk
  conv=>whnf
  exact hr _ _ rfl hk
end Go.Proofs.YtcmepkfefoidcaaGreatDoor
namespace Go.AE
theorem nils_core {w:World} {m:Mp} {K:List ABlk} (ty sz:Nat) (f:Nat→List AV) (hS:St w m (hp K)) (n:Nat) :
  ∃ m',Tr w m w m'∧St w m' (hp (K++List.replicate n (.arr ty sz 0 0 f)))∧∀ j,j<n→m'.L (j+K.length)=.nil 0:=by
 induction n generalizing m K with
 | zero=>exact⟨m,Tr.refl w m,by simpa using hS,fun j hj=>by omega⟩
 | succ n ih =>
  obtain⟨m1,t1,s1,l1⟩:=nil_core ty sz f hS (nswK.refl K.length K)
  obtain⟨m2,t2,s2,l2⟩:=ih s1
  refine⟨m2,t1.trans t2,?_,fun j hj=>?_⟩
  ·rw [List.append_assoc] at s2
   exact s2
  ·cases j with
   | zero =>
    have hb:=s2.blk K.length
    have e:hp (K++[.arr ty sz 0 0 f]++List.replicate n (.arr ty sz 0 0 f)) K.length=.arr ty sz 0 0 f:=by
     rw [hp_append,if_pos (by simp),hp_append,if_neg (by omega),Nat.sub_self];rfl
    rw [e] at hb
    have hs:=t2.step K.length
    rw [l1] at hs
    rw [Nat.zero_add]
    rcases hb with ⟨hb,_⟩|⟨cap,c,hb,_⟩
    ·exact hb
    ·rw [hb] at hs
     simp only [Inf.step] at hs
     rcases hs with hs|hs|⟨_,_,_,_,hs,h2⟩
     ·cases hs
     ·cases hs
     ·injection hs with h3 h4 h5 h6
      subst h3 h4
      omega
   | succ j =>
    have:=l2 j (by omega)
    rw [List.length_append,List.length_singleton] at this
    rw [← this]
    congr 1
    omega
theorem Le.nilRows {kb:Nat} {t:List (Nat×AV)} {K:List ABlk} {r ety ver n:Nat} {g:Nat→List AV} (ty sz:Nat) (f:Nat→List AV) (m0:Nat) (hm:m0=K.length) (hr:nth K r=some (.arr ety 1 ver n g)) (hg:∀ i,i<n→g i=[.p .nils]) :
  Le kb ⟨t,K⟩ ⟨t,setN K r (.arr ety 1 ver n fun i=>[.slr (i+m0) 0 0 0])++List.replicate n (.arr ty sz 0 0 f)⟩:=fun we me hk w m tmps hT hS hE=>by
 subst hm
 obtain⟨m',h1,h2,h3⟩:=nils_core ty sz f hS n
 have hrl:=nth_lt hr
 refine⟨m',hT.trans h1,⟨h2.inj,h2.notI,h2.lt,h2.Ilt,h2.gl,fun j=>?_⟩,fun d=>(hE d).mono h1,.tr h1 h2⟩
 have hb:=h2.blk j
 have hlen:(setN K r (.arr ety 1 ver n fun i=>[.slr (i+K.length) 0 0 0])).length=K.length:=by rw [setN_eq,List.length_set]
 rw [hp_append] at hb ⊢
 rw [hlen]
 by_cases hj:j<K.length
 ·rw [if_pos hj] at hb ⊢
  rw [← upd_setN _ hrl]
  by_cases e:j=r
  ·subst e
   simp only [upd,if_true]
   have eK:hp K j=.arr ety 1 ver n g:=by simp [hp,hr]
   rw [eK] at hb
   rcases hb with hb|⟨cap,c,e1,e2,e3,e4,e5,e6⟩
   ·exact .inl hb
   ·refine .inr ⟨cap,c,e1,e2,e3,e4,e5,fun i hi=>⟨rfl,fun q hq=>?_⟩⟩
    obtain⟨q1,q2⟩:=e6 i hi
    have hq0:q=0:=by simpa using hq
    subst hq0
    have hgl:0<(g i).length:=by rw [q1];omega
    obtain⟨u,hu,hv⟩:=q2 0 hgl
    refine⟨u,hu,?_⟩
    have e7:(g i)[0]=.p .nils:=by
     have:=hg i hi
     simp only [this,List.getElem_cons_zero]
    rw [e7] at hv
    cases hv with
    | p _ _ hv=>cases hv;exact .slrNil _ _ none (h3 i hi)
  ·simp only [upd,e,if_false];exact hb
 ·rw [if_neg hj] at hb ⊢
  exact hb
theorem nth_setN {α:Type} {l:List α} {r k:Nat} {b:α} (hr:r<l.length):nth (setN l r b) k=if k=r then some b else nth l k:=by
 rw [nth_eq,nth_eq,setN_eq,List.getElem?_set]
 by_cases e:r=k
 ·subst e;simp [hr]
 ·rw [if_neg e,if_neg fun h=>e h.symm]
theorem nth_some_lt {α:Type} {l:List α} {k:Nat} {b:α} (h:nth l k=some b):k<l.length:=by
 rw [nth_eq] at h
 exact (List.getElem?_eq_some_iff.1 h).1
theorem nth_snoc_l {α:Type} {l:List α} {k:Nat} {b b':α} (h:nth l k=some b):nth (snoc l b') k=some b:=by
 induction l generalizing k with
 | nil=>simp [nth] at h
 | cons a l ih =>
  cases k with
  | zero=>exact h
  | succ k=>exact ih h
theorem nth_rep {α:Type} {n k:Nat} {b:α} (h:k<n):nth (List.replicate n b) k=some b:=by
 rw [nth_eq,List.getElem?_replicate,if_pos h]
theorem nth_app_l {α:Type} {l l2:List α} {k:Nat} {b:α} (h:nth l k=some b):nth (l++l2) k=some b:=by
 have:=nth_some_lt h
 rw [nth_eq] at h ⊢
 rw [List.getElem?_append_left this];exact h
theorem nth_app_r {α:Type} (l:List α) (b:α):nth (l++[b]) l.length=some b:=by
 rw [nth_eq,List.getElem?_append_right (Nat.le_refl _),Nat.sub_self];rfl
theorem lesK_setN2 {K K':List ABlk} (h:lesK K K') (r:Nat) {b b':ABlk} (hb:b.le b'):lesK (setN K r b) (setN K' r b'):=by
 induction K generalizing K' r with
 | nil=>cases K' with
  | nil=>exact trivial
  | cons _ _=>exact h.elim
 | cons a l ih=>cases K' with
  | nil=>exact h.elim
  | cons a' l'=>cases r with
   | zero=>exact⟨hb,h.2⟩
   | succ r=>exact⟨h.1,ih h.2 r⟩
theorem lesK_snoc {K K':List ABlk} (h:lesK K K') {b b':ABlk} (hb:b.le b'):lesK (snoc K b) (snoc K' b'):=by
 induction K generalizing K' with
 | nil=>cases K' with
  | nil=>exact⟨hb,trivial⟩
  | cons _ _=>exact h.elim
 | cons a l ih=>cases K' with
  | nil=>exact h.elim
  | cons a' l'=>exact⟨h.1,ih h.2⟩
theorem snoc_length {α:Type} (l:List α) (b:α):(snoc l b).length=l.length+1:=by
 induction l with
 | nil=>rfl
 | cons a l ih=>simp only [snoc,List.length_cons,ih]
theorem setN_length {α:Type} (l:List α) (r:Nat) (b:α):(setN l r b).length=l.length:=by rw [setN_eq,List.length_set]
theorem Le.fz0 {kb:Nat} {t:List (Nat×AV)} {K:List ABlk} (d:Nat) {r ty sz ver n:Nat} {f:Nat→List AV} (hd:look t d=.slr r ver 0 n) (hr:nth K r=some (.arr ty sz ver n f)) (g:Nat→List PV) (hg:∀ i,i<n→f i=pvs (g i)) :
  Le kb ⟨t,K⟩ ⟨(d,.p (.sl sz n g))::t,setN K r .dead⟩:=fun we me hk w m tmps hT hS hE=>by
 obtain⟨m',h1,h2,h3⟩:=freeze_sl hS hr g hg
 refine⟨m',hT.trans h1,h2,fun d'=>?_,.tr h1 h2⟩
 have hE':=hE d'
 show V w m' (look ((d,.p (.sl sz n g))::t) d') _
 rw [look_cons]
 by_cases e:d=d'
 ·subst e
  rw [if_pos rfl]
  rw [hd] at hE'
  exact h3 _ hE'
 ·rw [if_neg e]
  exact hE'.mono h1
end Go.AE
namespace Go.Proofs.YtcmepkfefoidcaaGreatDoor
open Go.AE Go.Ru
set_option maxRecDepth 100000
set_option maxHeartbeats 400000
def plG (N:List Int) (κ:MK):Option AV:=match κ with
 | .i q y=>if q=.i64 then (match posL y N with
  | some i=>some (intV ((i:Nat):Int))
  | none=>none) else none
 | .s _=>none
theorem plG_some {N:List Int} {y:Int} {i:Nat} (h:posL y N=some i):plG N (.i .i64 y)=some (intV ((i:Nat):Int)):=by simp [plG,h]
theorem plG_none {N:List Int} {y:Int} (h:posL y N=none):plG N (.i .i64 y)=none:=by simp [plG,h]
theorem plG_cl {N:List Int} {κ:MK} {a:AV} {n:Nat} (h:plG N κ=some a):AV.cl n a=true:=by
 unfold plG at h
 split at h
 ·split at h
  ·split at h
   ·injection h with h;subst h;rfl
   ·cases h
  ·cases h
 ·cases h
theorem plG_ins {N:List Int} {z:Int} (hz:z ∉ N):insM (plG N) (.i .i64 z) (intV ((N.length:Nat):Int))=plG (N++[z]):=by
 funext κ
 cases κ with
 | s l=>simp [insM,plG]
 | i q y =>
  unfold insM plG
  by_cases hq:q=.i64
  ·subst hq
   simp only [if_true,posL_snoc hz]
   by_cases hy:y=z
   ·subst hy;simp
   ·have:(MK.i .i64 y)≠MK.i .i64 z:=fun h=>hy (by injection h)
    simp only [this,hy,if_false]
  ·have:(MK.i q y)≠MK.i .i64 z:=fun h=>hq (by injection h)
   simp only [this,hq,if_false]
def pBox (n:Nat) (a b:AV):ABlk:=.box 68 [.slr 3 0 0 n,.mref 1,a,b]
def poK (s:BSt) (N:List Int) (a b:AV):List ABlk:=[grW s,.mp (.int .i64) (plG N) [],pBox N.length a b,intR 0 N]
def rowsF (nx:Nat→List Nat) (i:Nat):List PV:=[.sl 1 (nx i).length (kidF (natL (nx i)))]
def rowsV (g:PG):AV:=.p (.sl 1 g.n (rowsF g.nx))
structure LaidOk (f:Nat→GN) (N:List Int):Prop where
 in_:∀ i,i<N.length→inP f N i
 live:∀ i,i<N.length→Live (pgN f N) i
structure NdsOk (s:BSt) (N:List Int):Prop where
 n:s.n<4096
 len:N.length≤s.n
 in_:∀ i,i<N.length→∃ x:Nat,N.getD i 0=(x:Int)∧x<s.n
 short:∀ x,x<s.n→(s.f x).nx.length<1000
def gLa:AG:=gput 68 cWays (gput 69 cEnds (gput 70 cNoF g0))
theorem gLa_ok:GOk Tryz.prog gLa:=gput_ok ways_ok (gput_ok ends_ok (gput_ok noF_ok g0_ok))
def cLaid:AC:=fun args K k=>∃ s N X,args=[.ptr 2 0 1 0 0,graphW s]∧K=poK s N (.p .nils) (.p .nils)++X∧NdsOk s N∧(LaidOk s.f N→k (.ret (.tup [rowsV (pgN s.f N),.p (.bool true)])) K)∧(¬ LaidOk s.f N→k (.ret (.tup [.junk,.p (.bool false)])) K)
def XOk (n:Nat) (F:Nat→List Nat) (X:List ABlk):Prop:=∀ j,j<n→nth X j=some (intR 0 (natL (F j)))
def backA (n:Nat) (F:Nat→List Nat):ABlk:=.arr 23 1 0 n (fun j=>[.slr (j+8) 0 0 (natL (F j)).length])
def lRow (g:PG) (i:Nat):ABlk:=.arr 23 1 0 i (fun j=>pvs (rowsF g.nx j))
def laK (s:BSt) (N:List Int) (g:PG) (F:Nat→List Nat) (i e:Nat) (X:List ABlk):List ABlk:=poK s N (.p .nils) (.p .nils)++[grW s,backA g.n F,lRow g i,intR 0 (natL (endsP g e))]++X
structure LaC where
 i:Nat
 X:List ABlk
def laS (s:BSt) (N:List Int) (g:PG) (c:LaC):AS:=⟨[(0,.ptr 2 0 1 0 0),(3,.ptr 4 0 1 0 0),(6,.slr 6 0 0 c.i),(7,.slr 5 0 0 g.n),(8,.slr 7 0 0 (natL (endsP g c.i)).length),(27,.slr 3 0 0 N.length),(28,intV N.length),(29,intV c.i)],laK s N g (bkN g c.i) c.i c.i c.X⟩
def seeA (n:Nat) (f:Nat→Bool):ABlk:=.arr 4 1 0 n fun i=>[.p (.bool (f i))]
structure LcC where
 seen:Nat→Bool
 pre:List Nat
 left:List Nat
 ver:Nat
 X:List ABlk
def lcS (s:BSt) (N:List Int) (g:PG) (q:Nat) (c:LcC):AS:=⟨[(6,.slr 6 0 0 g.n),(7,.slr 5 0 0 g.n),(8,.slr 7 c.ver c.pre.length c.left.length),(16,.slr (q+8) 0 0 g.n)],poK s N (.p .nils) (.p .nils)++[grW s,backA g.n (bkN g g.n),lRow g g.n,intR c.ver (natL (c.pre++c.left))]++c.X⟩
structure LcI (g:PG) (q:Nat) (c:LcC):Prop where
 b:BackI g c.seen c.left
 X:XOk g.n (bkN g g.n) c.X
 qn:g.n≤q
 sq:nth c.X q=some (seeA g.n c.seen)
 sz:c.pre.length+c.left.length+backM g c.seen g.n≤4096*(4096*2000+2)
structure LbC where
 t:Nat
 X:List ABlk
 fin:Bool
def ownL (g:PG) (i t:Nat):List Int:=natL ((g.nx i).take t)
def ownV (g:PG) (i q:Nat) (c:LbC):AV:=match c.fin with
 | true=>intsV (ownL g i c.t)
 | false=>.slr (q+8) 0 0 (ownL g i c.t).length
def lbS (s:BSt) (N:List Int) (g:PG) (i x q:Nat) (L:List Int) (c:LbC):AS:=⟨[(0,.ptr 2 0 1 0 0),(3,.ptr 4 0 1 0 0),(6,.slr 6 0 0 i),(7,.slr 5 0 0 g.n),(8,.slr 7 0 0 (natL (endsP g i)).length),(9,intV i),(10,intV x),(11,ownV g i q c),(27,.slr 3 0 0 N.length),(28,intV N.length),(29,intV i),(39,intsV L),(40,intV L.length),(41,intV c.t)],laK s N g (bkT g i c.t) i i c.X⟩
structure LbI (N:List Int) (g:PG) (i q:Nat) (L:List Int) (c:LbC):Prop where
 t:c.t≤L.length
 in_:∀ y∈L.take c.t,(posL y N).isSome=true
 X:XOk g.n (bkT g i c.t) c.X
 qn:g.n≤q
 f:c.fin=true→c.t=L.length
 nf:c.fin=false→c.t<L.length∧nth c.X q=some (intR 0 (ownL g i c.t))
theorem hxt0 {N:List Int} {i x:Nat} (hx:N.getD i 0=(x:Int)):(N.getD i 0).toNat=x:=by rw [hx];rfl
theorem lRow_one {g:PG} {i n:Nat} {l:List Int} (hl:l=natL (g.nx i)) (hn:n=l.length):(ABlk.arr 23 1 0 (i+1) (catF i (fun j=>pvs (rowsF g.nx j)) fun j=>takeN (dropN [.p (.sl 1 n (kidF l))] (j*1)) 1)).le (lRow g (i+1)):=by
 subst hn hl
 refine ABlk.arr_eq rfl fun j hj=>?_
 by_cases h:j<i
 ·rw [catF_lt h]
 ·obtain rfl:j=i:=by omega
  rw [catF_ge (Nat.le_refl _),Nat.sub_self]
  simp [takeN,dropN,rowsF,pvs,natL_len]
theorem backA_congr {n:Nat} {F F':Nat→List Nat} (h:∀ j,F j=F' j):backA n F=backA n F':=by rw [funext h]
def tmpS (l:List Int):ABlk:=.arr 23 1 0 1 fun j=>takeN (dropN [.p (.sl 1 l.length (kidF l))] (j*1)) 1
def tmpI (v:Int):ABlk:=.arr 3 1 0 1 fun j=>takeN (dropN [intV v] (j*1)) 1
theorem laid_ok:COk 43 cLaid:=by
 rintro args K k ⟨s,N,X,rfl,rfl,hN,hk1,hk0⟩
 refine frameZ (K0:=poK s N (.p .nils) (.p .nils)) (X:=X) gLa_ok 19 rfl ⟨rfl,fun _ _ h=>plG_cl h,rfl,fun _ _=>rfl,trivial⟩ fun Q hr=>?_
 have hn0:=hN.n
 have hnl:=hN.len
 obtain⟨g,hg⟩:∃ g,pgN s.f N=g:=⟨_,rfl⟩
 have hgn:g.n=N.length:=by rw [← hg];rfl
 have hnx:∀ i,i<g.n→∀ x:Nat,N.getD i 0=(x:Int)→g.nx i=(wayN (s.f x)).map (fun y=>(posL y N).getD 0)∧g.en i=endB (s.f x):=fun i hi x hx=>by
  subst hg
  have e:(N.getD i 0).toNat=x:=by rw [hx];rfl
  exact⟨by simp only [pgN,e],by simp only [pgN,e]⟩
 conv=>whnf
 refine Chk.mk ⟨by omega,Int.le_refl _,by omega,(by show ((24:Nat):Int)*(N.length:Int)≤140737488355328;omega)⟩ ?_
 conv=>whnf
 refine LoopW.le (Le.nilRow (t':=[(0,.ptr 2 0 1 0 0),(3,.ptr 4 0 1 0 0),(6,.slr 6 0 0 0),(7,.slr 5 0 0 N.length),(8,.p .nils),(27,.slr 3 0 0 N.length),(28,intV N.length),(29,intV 0)]) (K':=[_,_,_,_,_,_]) 23 1 (fun i=>pvs (rowsF g.nx i)) rfl
  ⟨.inl (AV.le_refl _),.inl (AV.le_refl _),.inr ⟨rfl,rfl⟩,.inl (AV.le_refl _),.inl (AV.le_refl _),.inl (AV.le_refl _),.inl (AV.le_refl _),.inl (AV.le_refl _),trivial⟩ ⟨.inl (ABlk.le_refl _),.inl (ABlk.le_refl _),.inl (ABlk.le_refl _),.inl (ABlk.le_refl _),.inl (ABlk.le_refl _),.inl (ABlk.le_refl _),trivial⟩) ?_
 refine LoopW.le (Le.nilRow (t':=[(0,.ptr 2 0 1 0 0),(3,.ptr 4 0 1 0 0),(6,.slr 6 0 0 0),(7,.slr 5 0 0 N.length),(8,.slr 7 0 0 0),(27,.slr 3 0 0 N.length),(28,intV N.length),(29,intV 0)]) (K':=[_,_,_,_,_,_,_]) 3 1 (fun i=>[intV ((natL []).getD i 0)]) rfl
  ⟨.inl (AV.le_refl _),.inl (AV.le_refl _),.inl (AV.le_refl _),.inl (AV.le_refl _),.inr ⟨rfl,rfl⟩,.inl (AV.le_refl _),.inl (AV.le_refl _),.inl (AV.le_refl _),trivial⟩ ⟨.inl (ABlk.le_refl _),.inl (ABlk.le_refl _),.inl (ABlk.le_refl _),.inl (ABlk.le_refl _),.inl (ABlk.le_refl _),.inl (ABlk.le_refl _),.inl (ABlk.le_refl _),trivial⟩) ?_
 refine LoopW.le (Le.nilRows (r:=5) 3 1 (fun i=>[intV ((natL []).getD i 0)]) 8 rfl rfl fun _ _=>rfl) ?_
 refine LoopW.le (Le.env (t':=(laS s N g ⟨0,List.replicate N.length (intR 0 [])⟩).t) (K':=(laS s N g ⟨0,List.replicate N.length (intR 0 [])⟩).K) ?_ ?_) ?_
 ·exact⟨AV.le_refl _,AV.le_refl _,AV.le_refl _,AV.le_of_eq (by rw [hgn];rfl),AV.le_refl _,AV.le_refl _,AV.le_refl _,AV.le_refl _,trivial⟩
 ·refine⟨ABlk.le_refl _,ABlk.le_refl _,ABlk.le_refl _,ABlk.le_refl _,ABlk.le_refl _,ABlk.le_of_eq (by rw [hgn];rfl),ABlk.le_refl _,ABlk.le_refl _,?_⟩
  exact lesK.refl _
 refine LoopW.by (laS s N g) (fun c=>c.i≤g.n∧(∀ j,j<c.i→inP s.f N j)∧XOk g.n (bkN g c.i) c.X) (fun c=>g.n - c.i) ?_ ⟨0,List.replicate N.length (intR 0 [])⟩ ⟨Nat.zero_le _,fun j hj=>by simp at hj,fun j hj=>nth_rep (by omega)⟩
 rintro Y hle ⟨i,X1⟩ ⟨hi,hin,hX⟩ ih
 replace hi:i≤g.n:=hi
 replace hin:∀ j,j<i→inP s.f N j:=hin
 replace hX:XOk g.n (bkN g i) X1:=hX
 by_cases h:i<g.n
 ·have h':(i:Int)<(N.length:Int):=by omega
  have hi0:(0:Int)≤(i:Int):=by omega
  have hw1:=wzz (i:=i) (by omega)
  obtain⟨x,hx,hxn⟩:=hN.in_ i (by omega)
  obtain⟨hgx,hge⟩:=hnx i h x hx
  have hx0:N.getD (0+i) 0=(x:Int):=by rw [Nat.zero_add];exact hx
  have hxa:(0:Int)≤N.getD (0+i) 0:=by rw [hx0];omega
  have hxb:N.getD (0+i) 0<(s.n:Int):=by rw [hx0];omega
  have hxt:(N.getD (0+i) 0).toNat=x:=by rw [hx0];rfl
  have hsh:=hN.short x hxn
  obtain⟨L,hL⟩:∃ L,wayN (s.f x)=L:=⟨_,rfl⟩
  have hLl:L.length<2000:=by rw [← hL];unfold wayN;split<;>simp<;>omega
  have hgl:(g.nx i).length=L.length:=by rw [hgx,hL,List.length_map]
  conv=>whnf
  refine two_true (decide_eq_true h') ?_
  conv=>whnf
  refine Chk.mk ⟨rfl,Nat.zero_add _,hi0,h',rfl⟩ ?_
  conv=>whnf
  refine Chk.mk ⟨rfl,rfl⟩ ?_
  conv=>whnf
  refine Chk.mk ⟨hxa,hxb,rfl⟩ ?_
  conv=>whnf
  refine⟨s.f (N.getD (0+i) 0).toNat,L,rfl,by rw [hxt];omega,by rw [hxt];exact hL,?_⟩
  conv=>whnf
  ((first|refine fK_to ?_|refine fL_to ?_|refine fB_to ?_);conv=>whnf)
  have hq:g.n≤X1.length:=by
   cases hn:g.n with
   | zero=>omega
   | succ n=>have:=nth_some_lt (hX n (by omega));omega
  refine LoopW.le (s':=lbS s N g i x X1.length L (match L with|[]=>⟨0,X1,true⟩|_=>⟨0,X1++[intR 0 []],false⟩)) ?_ (LoopW.by (lbS s N g i x X1.length L) (LbI N g i X1.length L) (fun c=>L.length - c.t) ?_ (match L with|[]=>⟨0,X1,true⟩|_=>⟨0,X1++[intR 0 []],false⟩) ?_)
  ·cases L with
   | nil =>
    refine Le.env ⟨AV.le_refl _,AV.le_refl _,AV.le_refl _,AV.le_refl _,AV.le_refl _,AV.le_refl _,AV.le_of_eq (congrArg intV hx0),AV.nils_le _ _,AV.le_refl _,AV.le_refl _,AV.le_refl _,AV.le_refl _,AV.le_refl _,AV.le_refl _,trivial⟩ ?_
    refine⟨ABlk.le_refl _,ABlk.le_refl _,ABlk.le_refl _,ABlk.le_refl _,ABlk.le_refl _,ABlk.le_of_eq ?_,ABlk.le_refl _,ABlk.le_refl _,lesK.refl _⟩
    unfold backA
    congr 1
    funext j
    rw [bkT_zero]
   | cons a L =>
    refine Le.nilRow (t':=_) (K':=laK s N g (bkT g i 0) i i X1) 3 1 (fun i=>[intV ((natL []).getD i 0)]) rfl
     ⟨.inl (AV.le_refl _),.inl (AV.le_refl _),.inl (AV.le_refl _),.inl (AV.le_refl _),.inl (AV.le_refl _),.inl (AV.le_refl _),.inl (AV.le_of_eq (congrArg intV hx0)),.inr ⟨rfl,rfl⟩,.inl (AV.le_refl _),.inl (AV.le_refl _),.inl (AV.le_refl _),.inl (AV.le_refl _),.inl (AV.le_refl _),.inl (AV.le_refl _),trivial⟩
     ⟨.inl (ABlk.le_refl _),.inl (ABlk.le_refl _),.inl (ABlk.le_refl _),.inl (ABlk.le_refl _),.inl (ABlk.le_refl _),.inl (ABlk.le_of_eq ?_),.inl (ABlk.le_refl _),.inl (ABlk.le_refl _),nswK.refl _ _⟩
    unfold backA
    congr 1
    funext j
    rw [bkT_zero]
  ·rintro Z hlz ⟨t,X2,fin⟩ ⟨ht,hti,hX2,hq2,hf,hnf⟩ ihz
   replace ht:t≤L.length:=ht
   replace hti:∀ y∈L.take t,(posL y N).isSome=true:=hti
   replace hX2:XOk g.n (bkT g i t) X2:=hX2
   cases fin with
   | true =>
    obtain rfl:t=L.length:=hf rfl
    have ht':¬ (L.length:Int)<(L.length:Int):=by omega
    have hbk:∀ j,bkT g i L.length j=bkN g (i+1) j:=fun j=>bkT_all (by omega) j
    have hown:ownL g i L.length=natL (g.nx i):=by unfold ownL;rw [List.take_of_length_le (by omega)]
    have hin':∀ j,j<i+1→inP s.f N j:=fun j hj=>by
     by_cases e:j=i
     ·subst e
      intro y hy
      rw [hxt0 hx] at hy
      rw [hL] at hy
      exact hti y (by rw [List.take_length];exact hy)
     ·exact hin j (by omega)
    have hX3:XOk g.n (bkN g (i+1)) X2:=fun j hj=>by rw [← hbk j];exact hX2 j hj
    conv=>whnf
    refine two_false (decide_eq_false ht') ?_
    conv=>whnf
    refine Chk.mk ⟨Int.natCast_nonneg x,(by omega),rfl⟩ ?_
    conv=>whnf
    refine⟨s.f (x:Int).toNat,endB (s.f x),rfl,rfl,?_⟩
    conv=>whnf
    refine two_intro (fun he=>?_) (fun he=>?_)
    ·have hes:natL (endsP g (i+1))=natL (endsP g i)++[(i:Int)]:=by simp only [endsP];rw [if_pos (hge.trans he)];simp [natL]
     have hes2:(natL (endsP g (i+1))).length=(natL (endsP g i)).length+1:=by rw [hes];simp
     have hel:(natL (endsP g i)).length≤i:=by rw [natL_len];exact endsP_len g i
     conv=>whnf
     ((first|refine fK_to ?_|refine fL_to ?_|refine fB_to ?_);conv=>whnf)
     conv in (nth _ _)=>tactic=>exact nth_snoc _ _
     conv=>whnf
     refine Chk.mk ⟨rfl,rfl,rfl,allLt_ok ⟨trivial,rfl⟩⟩ ?_
     conv=>whnf
     refine Chk.mk ⟨rfl,rfl,rfl,rfl,(by show ((natL (endsP g i)).length+1)*8≤140737488355328;omega),(by show (natL (endsP g i)).length+1≤9223372036854775807;omega)⟩ ?_
     conv=>whnf
     ((first|refine fK_to ?_|refine fL_to ?_|refine fB_to ?_);conv=>whnf)
     ((first|refine fK_to ?_|refine fL_to ?_|refine fB_to ?_);conv=>whnf)
     conv in (nth _ _)=>tactic=>exact nth_snoc _ _
     conv=>whnf
     refine Chk.mk ⟨rfl,rfl,rfl,allLt_ok ⟨trivial,rfl⟩⟩ ?_
     conv=>whnf
     refine Chk.mk ⟨rfl,rfl,rfl,rfl,(by show (i+1)*24≤140737488355328;omega),(by show i+1≤9223372036854775807;omega)⟩ ?_
     conv=>whnf
     ((first|refine fK_to ?_|refine fL_to ?_|refine fB_to ?_);conv=>whnf)
     refine hle _ _ (Le.env ?_ ?_) (ih ⟨i+1,snoc (snoc X2 (tmpI i)) (tmpS (ownL g i L.length))⟩ (by show g.n - (i+1)<g.n - i;omega) ⟨by show i+1≤g.n;omega,hin',?_⟩)
     rotate_left
     refine⟨ABlk.le_refl _,ABlk.le_refl _,ABlk.le_refl _,ABlk.le_refl _,ABlk.le_refl _,ABlk.le_of_eq (backA_congr hbk),lRow_one hown rfl,?_,lesK.refl _⟩
     ·exact hes▸intR_one rfl rfl
     ·exact fun j hj=>nth_snoc_l (nth_snoc_l (hX3 j hj))
     ·skip
      repeat' (first|exact trivial|((conv=>whnf);first|exact trivial|refine⟨AV.le_refl _,?_⟩|refine⟨ABlk.le_refl _,?_⟩|(refine⟨AV.le_of_eq ?_,?_⟩;focus ((first|exact congrArg intV hw1|exact congrArg (fun n=>AV.slr 7 0 0 n) hes2.symm|fail);done))|(refine⟨ABlk.le_of_eq ?_,?_⟩;focus ((first|exact congrArg intV hw1|exact congrArg (fun n=>AV.slr 7 0 0 n) hes2.symm|fail);done))|fail)|fail)
    ·have hes:endsP g (i+1)=endsP g i:=by simp only [endsP];rw [if_neg (by rw [hge,he];simp)]
     conv=>whnf
     ((first|refine fK_to ?_|refine fL_to ?_|refine fB_to ?_);conv=>whnf)
     conv in (nth _ _)=>tactic=>exact nth_snoc _ _
     conv=>whnf
     refine Chk.mk ⟨rfl,rfl,rfl,allLt_ok ⟨trivial,rfl⟩⟩ ?_
     conv=>whnf
     refine Chk.mk ⟨rfl,rfl,rfl,rfl,(by show (i+1)*24≤140737488355328;omega),(by show i+1≤9223372036854775807;omega)⟩ ?_
     conv=>whnf
     ((first|refine fK_to ?_|refine fL_to ?_|refine fB_to ?_);conv=>whnf)
     refine hle _ _ (Le.env ?_ ?_) (ih ⟨i+1,snoc X2 (tmpS (ownL g i L.length))⟩ (by show g.n - (i+1)<g.n - i;omega) ⟨by show i+1≤g.n;omega,hin',?_⟩)
     rotate_left
     refine⟨ABlk.le_refl _,ABlk.le_refl _,ABlk.le_refl _,ABlk.le_refl _,ABlk.le_refl _,ABlk.le_of_eq (backA_congr hbk),lRow_one hown rfl,?_,lesK.refl _⟩
     ·exact ABlk.le_of_eq (congrArg (fun l=>intR 0 (natL l)) hes.symm)
     ·exact fun j hj=>nth_snoc_l (hX3 j hj)
     ·skip
      repeat' (first|exact trivial|((conv=>whnf);first|exact trivial|refine⟨AV.le_refl _,?_⟩|refine⟨ABlk.le_refl _,?_⟩|(refine⟨AV.le_of_eq ?_,?_⟩;focus ((first|exact congrArg intV hw1|exact congrArg (fun l=>AV.slr 7 0 0 (natL l).length) hes.symm|fail);done))|(refine⟨ABlk.le_of_eq ?_,?_⟩;focus ((first|exact congrArg intV hw1|exact congrArg (fun l=>AV.slr 7 0 0 (natL l).length) hes.symm|fail);done))|fail)|fail)
   | false =>
    obtain⟨htl,hq3⟩:=hnf rfl
    replace htl:t<L.length:=htl
    replace hq3:nth X2 X1.length=some (intR 0 (ownL g i t)):=hq3
    have ht':(t:Int)<(L.length:Int):=by omega
    have hwt:=wzz (i:=t) (by omega)
    have hol:(ownL g i t).length≤t:=by unfold ownL;rw [natL_len,List.length_take];exact Nat.min_le_left ..
    obtain⟨o,hp⟩:∃ o,posL (L.getD t 0) N=o:=⟨_,rfl⟩
    have hyL:L.getD t 0∈L:=by rw [List.getD_eq_getElem?_getD,List.getElem?_eq_getElem htl];exact List.getElem_mem htl
    cases o with
    | none =>
     have hbad:¬ LaidOk s.f N:=fun ok=>by
      have:=ok.in_ i (by omega) (L.getD t 0) (by rw [hxt0 hx,hL];exact hyL)
      rw [hp] at this
      cases this
     conv=>whnf
     refine two_true (decide_eq_true ht') ?_
     conv=>whnf
     refine Chk.mk ⟨Int.natCast_nonneg t,ht',rfl⟩ ?_
     conv=>whnf
     refine MGet.of_none (plG_none hp) ?_
     conv=>whnf
     ((first|refine fK_to ?_|refine fL_to ?_|refine fB_to ?_);conv=>whnf)
     exact hr _ _ (.tup [.junk,.p (.bool false)]) (poK s N (.p .nils) (.p .nils)) _ (Wk1.le (AV.tup_le ⟨AV.le_junk _,AV.le_refl _,trivial⟩) (lesK.refl _)) rfl rfl ⟨rfl,fun _ _ h=>plG_cl h,rfl,fun _ _=>rfl,trivial⟩ (hk0 hbad)
    | some at_ =>
     have hk0':=posL_some hp
     have hkn:at_<g.n:=by omega
     have hyt:L[t]'htl=L.getD t 0:=by rw [List.getD_eq_getElem?_getD,List.getElem?_eq_getElem htl];rfl
     have hgt:(g.nx i).getD t 0=at_:=by
      rw [hgx,hL,List.getD_eq_getElem?_getD,List.getElem?_map,List.getElem?_eq_getElem htl,hyt]
      simp only [Option.map_some,Option.getD_some,hp]
     have htg:t<(g.nx i).length:=by omega
     have hown1:ownL g i (t+1)=ownL g i t++[(at_:Int)]:=by
      unfold ownL
      rw [List.take_add_one,List.getElem?_eq_getElem htg]
      have:(g.nx i)[t]=at_:=by rw [← hgt,List.getD_eq_getElem?_getD,List.getElem?_eq_getElem htg];rfl
      rw [this];simp [natL]
     have hbk1:∀ j,bkT g i (t+1) j=if j=at_ then bkT g i t j++[i] else bkT g i t j:=fun j=>by rw [bkT_succ htg,hgt]
     have hbl:(natL (bkT g i t at_)).length≤(i+1)*2000:=by
      rw [natL_len]
      refine bkT_len g i t 2000 (fun q hq=>?_) at_
      obtain⟨x2,hx2,hxn2⟩:=hN.in_ q (by omega)
      have:=hN.short x2 hxn2
      rw [(hnx q (by omega) x2 hx2).1,List.length_map]
      unfold wayN
      split<;>simp<;>omega
     have hb8:((natL (bkT g i t at_)).length+1)*8≤140737488355328:=by omega
     have hbe:(natL (bkT g i t (0+at_))).length=(natL (bkT g i t at_)).length:=by rw [Nat.zero_add]
     have hb8':((natL (bkT g i t (0+at_))).length+1)*8≤140737488355328:=by rw [hbe];exact hb8
     have hb9':(natL (bkT g i t (0+at_))).length+1≤9223372036854775807:=by rw [hbe];omega
     have hXat:nth X2 (0+at_)=some (intR 0 (natL (bkT g i t at_))):=by rw [Nat.zero_add];exact hX2 at_ hkn
     have hkz:(0:Int)≤(at_:Int):=by omega
     have hkz2:(at_:Int)<(g.n:Int):=by omega
     have hq1:X1.length<(snoc X2 (tmpI at_)).length:=by rw [snoc_length];have:=nth_some_lt hq3;omega
     have hzat:∀ A:ABlk,nth (snoc (setN (snoc X2 (tmpI at_)) X1.length A) (tmpI i)) (0+at_)=some (intR 0 (natL (bkT g i t at_))):=fun A=>by
      refine nth_snoc_l ?_
      rw [nth_setN hq1,if_neg (by omega)]
      exact nth_snoc_l hXat
     obtain⟨T,hT⟩:∃ T,T=setN (snoc (setN (snoc X2 (tmpI at_)) X1.length (intR 0 (ownL g i (t+1)))) (tmpI i)) (0+at_) (intR 0 (natL (bkT g i (t+1) at_))):=⟨_,rfl⟩
     have hti1:∀ y∈L.take (t+1),(posL y N).isSome=true:=fun y hy=>by
      rw [List.take_add_one,List.getElem?_eq_getElem htl,List.mem_append] at hy
      rcases hy with hy|hy
      ·exact hti y hy
      ·obtain rfl:y=L[t]:=by simpa using hy
       rw [hyt,hp];rfl
     have hlen1:(snoc (setN (snoc X2 (tmpI at_)) X1.length (intR 0 (ownL g i (t+1)))) (tmpI i)).length=X2.length+2:=by rw [snoc_length,setN_length,snoc_length]
     have hx2l:=nth_some_lt hq3
     have hXT:XOk g.n (bkT g i (t+1)) T:=fun j hj=>by
      rw [hT,nth_setN (by rw [hlen1];omega),Nat.zero_add]
      by_cases e:j=at_
      ·subst e;rw [if_pos rfl]
      ·rw [if_neg e,hbk1,if_neg e]
       refine nth_snoc_l ?_
       rw [nth_setN hq1,if_neg (by omega)]
       exact nth_snoc_l (hX2 j hj)
     have hTq:nth T X1.length=some (intR 0 (ownL g i (t+1))):=by
      rw [hT,nth_setN (by rw [hlen1];omega),Nat.zero_add,if_neg (by omega)]
      refine nth_snoc_l ?_
      rw [nth_setN hq1,if_pos rfl]
     have hXD:XOk g.n (bkT g i (t+1)) (setN T X1.length .dead):=fun j hj=>by
      rw [nth_setN (nth_some_lt hTq),if_neg (by omega)]
      exact hXT j hj
     have hfz:∀ kb,Le kb (lbS s N g i x X1.length L ⟨t+1,T,false⟩) (lbS s N g i x X1.length L ⟨t+1,setN T X1.length .dead,true⟩):=fun kb =>
      Le.trans (Le.fz0 11 (r:=X1.length+8) rfl hTq (kidF (ownL g i (t+1))) fun _ _=>rfl) (Le.env ⟨AV.le_refl _,AV.le_refl _,AV.le_refl _,AV.le_refl _,AV.le_refl _,AV.le_refl _,AV.le_refl _,AV.le_refl _,AV.le_refl _,AV.le_refl _,AV.le_refl _,AV.le_refl _,AV.le_refl _,AV.le_refl _,trivial⟩ (lesK.refl _))
     have hA:(ABlk.arr 3 1 0 ((ownL g i t).length+1) (catF (ownL g i t).length (fun i_1=>[intV ((ownL g i t).getD i_1 0)]) fun i_1=>takeN (dropN [intV (at_:Int)] (i_1*1)) 1)).le (intR 0 (ownL g i (t+1))):=hown1▸intR_one rfl rfl
     have hB:(ABlk.arr 3 1 0 ((natL (bkT g i t (0+at_))).length+1) (catF (natL (bkT g i t (0+at_))).length (fun i_1=>[intV ((natL (bkT g i t at_)).getD i_1 0)]) fun i_1=>takeN (dropN [intV (i:Int)] (i_1*1)) 1)).le (intR 0 (natL (bkT g i (t+1) at_))):=by
      have e:natL (bkT g i (t+1) at_)=natL (bkT g i t at_)++[(i:Int)]:=by rw [hbk1,if_pos rfl];simp [natL]
      rw [e]
      exact intR_one hbe rfl
     have hown2:AV.slr (X1.length+8) 0 0 ((ownL g i t).length+1)=.slr (X1.length+8) 0 0 (ownL g i (t+1)).length:=by rw [hown1,List.length_append];rfl
     have hback:(ABlk.arr 23 1 0 g.n (updF (fun j=>[.slr (j+8) 0 0 (natL (bkT g i t j)).length]) (0+at_) [.slr (0+at_+8) 0 0 ((natL (bkT g i t (0+at_))).length+1)])).le (backA g.n (bkT g i (t+1))):=by
      refine ABlk.arr_eq rfl fun j hj=>?_
      rw [updF_eq,Nat.zero_add]
      by_cases e:j=at_
      ·subst e;rw [if_pos rfl,hbk1,if_pos rfl];simp [natL]
      ·rw [if_neg e,hbk1,if_neg e]
     conv=>whnf
     refine two_true (decide_eq_true ht') ?_
     conv=>whnf
     refine Chk.mk ⟨Int.natCast_nonneg t,ht',rfl⟩ ?_
     conv=>whnf
     refine MGet.of_some (plG_some hp) ?_
     conv=>whnf
     ((first|refine fK_to ?_|refine fL_to ?_|refine fB_to ?_);conv=>whnf)
     conv in (nth _ _)=>tactic=>exact nth_snoc _ _
     conv=>whnf
     refine Chk.mk ⟨rfl,rfl,rfl,allLt_ok ⟨trivial,rfl⟩⟩ ?_
     conv=>whnf
     conv in (nth _ _)=>tactic=>exact nth_snoc_l hq3
     conv=>whnf
     refine Chk.mk ⟨rfl,rfl,rfl,rfl,(by show ((ownL g i t).length+1)*8≤140737488355328;omega),(by show (ownL g i t).length+1≤9223372036854775807;omega)⟩ ?_
     conv=>whnf
     ((first|refine fK_to ?_|refine fL_to ?_|refine fB_to ?_);conv=>whnf)
     refine Chk.mk ⟨rfl,Nat.zero_add _,hkz,hkz2,rfl⟩ ?_
     conv=>whnf
     refine Chk.mk ⟨rfl,rfl⟩ ?_
     conv=>whnf
     ((first|refine fK_to ?_|refine fL_to ?_|refine fB_to ?_);conv=>whnf)
     conv in (nth _ _)=>tactic=>exact nth_snoc _ _
     conv=>whnf
     refine Chk.mk ⟨rfl,rfl,rfl,allLt_ok ⟨trivial,rfl⟩⟩ ?_
     conv=>whnf
     conv in (nth _ _)=>tactic=>exact hzat _
     conv=>whnf
     refine Chk.mk ⟨rfl,hbe,rfl,rfl,hb8',hb9'⟩ ?_
     conv=>whnf
     ((first|refine fK_to ?_|refine fL_to ?_|refine fB_to ?_);conv=>whnf)
     refine Chk.mk ⟨rfl,Nat.zero_add _,hkz,hkz2,rfl⟩ ?_
     conv=>whnf
     refine Chk.mk ⟨rfl,rfl⟩ ?_
     conv=>whnf
     ((first|refine fK_to ?_|refine fL_to ?_|refine fB_to ?_);conv=>whnf)
     rcases Nat.lt_or_ge (t+1) L.length with hlast|hlast
     ·refine hlz _ _ (Le.env ?_ ?_) (ihz ⟨t+1,T,false⟩ (by show L.length - (t+1)<L.length - t;omega) ⟨by show t+1≤L.length;omega,hti1,hXT,hq2,(fun e=>by cases e),(fun _=>⟨hlast,hTq⟩)⟩)
      ·exact⟨AV.le_refl _,AV.le_refl _,AV.le_refl _,AV.le_refl _,AV.le_refl _,AV.le_refl _,AV.le_refl _,AV.le_of_eq hown2,AV.le_refl _,AV.le_refl _,AV.le_refl _,AV.le_refl _,AV.le_refl _,AV.le_of_eq (congrArg intV hwt),trivial⟩
      ·refine⟨ABlk.le_refl _,ABlk.le_refl _,ABlk.le_refl _,ABlk.le_refl _,ABlk.le_refl _,hback,ABlk.le_refl _,ABlk.le_refl _,?_⟩
       rw [hT]
       exact lesK_setN2 (lesK_snoc (lesK_setN2 (lesK.refl _) _ hA) (ABlk.le_refl _)) _ hB
     ·refine hlz _ _ (Le.trans (Le.env ?_ ?_) (hfz _)) (ihz ⟨t+1,setN T X1.length .dead,true⟩ (by show L.length - (t+1)<L.length - t;omega) ⟨by show t+1≤L.length;omega,hti1,hXD,hq2,(fun _=>by show t+1=L.length;omega),(fun e=>by cases e)⟩)
      ·exact⟨AV.le_refl _,AV.le_refl _,AV.le_refl _,AV.le_refl _,AV.le_refl _,AV.le_refl _,AV.le_refl _,AV.le_of_eq hown2,AV.le_refl _,AV.le_refl _,AV.le_refl _,AV.le_refl _,AV.le_refl _,AV.le_of_eq (congrArg intV hwt),trivial⟩
      ·refine⟨ABlk.le_refl _,ABlk.le_refl _,ABlk.le_refl _,ABlk.le_refl _,ABlk.le_refl _,hback,ABlk.le_refl _,ABlk.le_refl _,?_⟩
       rw [hT]
       exact lesK_setN2 (lesK_snoc (lesK_setN2 (lesK.refl _) _ hA) (ABlk.le_refl _)) _ hB
  ·cases L with
   | nil=>exact⟨Nat.le_refl _,fun y hy=>by simp at hy,fun j hj=>by rw [bkT_zero];exact hX j hj,hq,(fun _=>rfl),(fun h=>by cases h)⟩
   | cons a L=>exact⟨Nat.zero_le _,fun y hy=>by simp at hy,fun j hj=>nth_app_l (by rw [bkT_zero];exact hX j hj),hq,(fun h=>by cases h),(fun _=>⟨by simp,nth_app_r X1 _⟩)⟩
 ·obtain rfl:i=g.n:=by omega
  have h':¬ ((g.n:Nat):Int)<(N.length:Int):=by omega
  have hrng:∀ i,i<g.n→∀ j∈g.nx i,j<g.n:=by
   rw [← hg];exact pgN_rng fun i hi=>hin i (by rw [hgn];exact hi)
  have hsm:∀ q,q<g.n→(g.nx q).length≤2000:=fun q hq=>by
   obtain⟨x2,hx2,hxn2⟩:=hN.in_ q (by omega)
   have:=hN.short x2 hxn2
   rw [(hnx q hq x2 hx2).1,List.length_map]
   unfold wayN
   split<;>simp<;>omega
  have hbm:∀ m,m≤g.n→backM g (fun _=>false) m≤m*(4096*2000+1):=fun m=>by
   induction m with
   | zero=>intro _;simp [backM]
   | succ m ihm =>
    intro hm
    have h1:=ihm (by omega)
    have h2:(backL g m).length≤g.n*2000:=by rw [← bkN_back];exact bk_len g g.n 2000 hsm m
    simp only [backM]
    rw [if_neg (by simp),Nat.succ_mul]
    have h3:g.n*2000≤4096*2000:=Nat.mul_le_mul_right _ (by omega)
    omega
  have hXl:g.n≤X1.length:=by
   cases hn:g.n with
   | zero=>omega
   | succ n=>have:=nth_some_lt (hX n (by omega));omega
  have hb0:=hbm g.n (Nat.le_refl _)
  have hb1:g.n*(4096*2000+1)≤4096*(4096*2000+1):=Nat.mul_le_mul_right _ (by omega)
  have hel:=endsP_len g g.n
  conv=>whnf
  refine two_false (decide_eq_false h') ?_
  conv=>whnf
  refine Chk.mk ⟨by omega,Int.le_refl _,by omega,(by show ((1:Nat):Int)*(N.length:Int)≤140737488355328;omega)⟩ ?_
  conv=>whnf
  ((first|refine fK_to ?_|refine fL_to ?_|refine fB_to ?_);conv=>whnf)
  ((first|refine fK_to ?_|refine fL_to ?_|refine fB_to ?_);conv=>whnf)
  refine LoopW.le (s':=lcS s N g X1.length ⟨fun _=>false,[],endsP g g.n,0,snoc X1 (seeA g.n fun _=>false)⟩) (Le.env ?_ ?_) (LoopW.by (lcS s N g X1.length) (LcI g X1.length) (fun c=>backM g c.seen g.n+c.left.length) ?_ ⟨fun _=>false,[],endsP g g.n,0,snoc X1 (seeA g.n fun _=>false)⟩ ?_)
  ·exact⟨AV.le_refl _,AV.le_refl _,AV.le_of_eq (show AV.slr 7 0 0 (natL (endsP g g.n)).length=.slr 7 0 0 (endsP g g.n).length by rw [natL_len]),AV.le_of_eq (show AV.slr (len X1+8) 0 0 N.length=.slr (X1.length+8) 0 0 g.n by rw [len_length,hgn]),trivial⟩
  ·exact⟨ABlk.le_refl _,ABlk.le_refl _,ABlk.le_refl _,ABlk.le_refl _,ABlk.le_refl _,ABlk.le_refl _,ABlk.le_refl _,ABlk.le_refl _,lesK_snoc (lesK.refl _) (ABlk.le_of_eq (by rw [← hgn];rfl))⟩
  ·rintro Z hlz ⟨seen,pre,left,ver,X2⟩ ⟨hB,hX2,hq2,hsq,hsz⟩ ihz
   replace hB:BackI g seen left:=hB
   replace hX2:XOk g.n (bkN g g.n) X2:=hX2
   replace hsq:nth X2 X1.length=some (seeA g.n seen):=hsq
   replace hsz:pre.length+left.length+backM g seen g.n≤4096*(4096*2000+2):=hsz
   cases left with
   | nil =>
    have hlive:=fun i hi=>hB.done hrng (i:=i) hi
    conv=>whnf
    refine⟨X1.length+8,0,g.n,seen,rfl,hsq,by omega,fun b hb=>?_⟩
    cases b with
    | true =>
     have hbad:¬ LaidOk s.f N:=fun ok=>by
      obtain⟨j,hj,hs⟩:=hb.1 rfl
      have:=ok.live j (by omega)
      rw [hg] at this
      rw [(hlive j hj).2 this] at hs
      cases hs
     conv=>whnf
     ((first|refine fK_to ?_|refine fL_to ?_|refine fB_to ?_);conv=>whnf)
     exact hr _ _ (.tup [.junk,.p (.bool false)]) (poK s N (.p .nils) (.p .nils)) _ (Wk1.le (AV.tup_le ⟨AV.le_junk _,AV.le_refl _,trivial⟩) (lesK.refl _)) rfl rfl ⟨rfl,fun _ _ h=>plG_cl h,rfl,fun _ _=>rfl,trivial⟩ (hk0 hbad)
    | false =>
     have hok:LaidOk s.f N:=⟨fun j hj=>hin j (by omega),fun j hj=>by
      rw [hg]
      refine (hlive j (by omega)).1 ?_
      cases hs:seen j with
      | true=>rfl
      | false=>have:=hb.2 ⟨j,by omega,hs⟩;cases this⟩
     have hk1:=hk1 hok
     rw [hg] at hk1
     conv=>whnf
     ((first|refine fK_to ?_|refine fL_to ?_|refine fB_to ?_);conv=>whnf)
     exact hr _ _ (.tup [rowsV g,.p (.bool true)]) (poK s N (.p .nils) (.p .nils)) _ (Wk1.tup_freeze1 (r:=6) rfl (rowsF g.nx) fun _ _=>rfl) rfl rfl ⟨rfl,fun _ _ h=>plG_cl h,rfl,fun _ _=>rfl,trivial⟩ hk1
   | cons k left =>
    have hkn:k<g.n:=(hB.live k (.inr (by simp))).1
    have hlenA:pre.length+(left.length+1)=(natL (pre++k::left)).length:=by rw [natL_len];simp
    obtain⟨v,hv⟩:∃ v,(natL (pre++k::left)).getD (pre.length+0) 0=v:=⟨_,rfl⟩
    have hvk:v=(k:Int):=by rw [← hv];simp [natL,List.getD_eq_getElem?_getD]
    have hva:0≤(natL (pre++k::left)).getD (pre.length+0) 0:=by rw [hv,hvk];omega
    have hvb:(natL (pre++k::left)).getD (pre.length+0) 0<(g.n:Int):=by rw [hv,hvk];omega
    have hvt:0+((natL (pre++k::left)).getD (pre.length+0) 0).toNat=k:=by rw [hv,hvk];simp
    have hl1:(0:Int)<((left.length+1:Nat):Int):=by omega
    have hl2:(1:Int)≤((left.length+1:Nat):Int):=by omega
    have hl0:((left.length+1:Nat):Int)>0:=by omega
    cases hs:seen k with
    | true =>
     have hall:natL ((pre++[k])++left)=natL (pre++k::left):=by simp
     have hsz':(pre++[k]).length+left.length+backM g seen g.n≤4096*(4096*2000+2):=by
      rw [List.length_cons] at hsz;rw [List.length_append,List.length_singleton];omega
     conv=>whnf
     refine two_true (decide_eq_true hl0) ?_
     conv=>whnf
     refine Chk.mk ⟨rfl,hlenA,by decide,hl1,rfl⟩ ?_
     conv=>whnf
     refine Chk.mk ⟨rfl,rfl⟩ ?_
     conv=>whnf
     refine Chk.mk ⟨rfl,hlenA,by decide,hl2,rfl⟩ ?_
     conv=>whnf
     conv in (nth _ _)=>tactic=>exact hsq
     conv=>whnf
     refine Chk.mk ⟨rfl,Nat.zero_add _,hva,hvb,rfl⟩ ?_
     conv=>whnf
     conv in (nth _ _)=>tactic=>exact hsq
     conv=>whnf
     refine Chk.mk ⟨rfl,rfl⟩ ?_
     conv=>whnf
     refine two_false (show (!seen (0+((natL (pre++k::left)).getD (pre.length+0) 0).toNat))=false by rw [hvt,hs];rfl) ?_
     conv=>whnf
     refine hlz _ _ (Le.env ?_ ?_) (ihz ⟨seen,pre++[k],left,ver,X2⟩ (by show backM g seen g.n+left.length<backM g seen g.n+(left.length+1);omega) ⟨hB.skip hs,hX2,hq2,hsq,hsz'⟩)
     ·exact⟨AV.le_refl _,AV.le_refl _,AV.le_of_eq (show AV.slr 7 ver (pre.length+1) left.length=.slr 7 ver (pre++[k]).length left.length by simp),AV.le_refl _,trivial⟩
     ·exact⟨ABlk.le_refl _,ABlk.le_refl _,ABlk.le_refl _,ABlk.le_refl _,ABlk.le_refl _,ABlk.le_refl _,ABlk.le_refl _,ABlk.le_of_eq (congrArg (intR ver) hall.symm),lesK.refl _⟩
    | false =>
     have hbt:=backM_take (g:=g) hs hkn
     have hbl:(natL (bkN g g.n k)).length=(backL g k).length:=by rw [natL_len];rfl
     obtain⟨W,hW⟩:∃ W,W=0+((natL (pre++k::left)).getD (pre.length+0) 0).toNat:=⟨_,rfl⟩
     have hWk:W=k:=hW.trans hvt
     have hbw:(natL (bkN g g.n (0+((natL (pre++k::left)).getD (pre.length+0) 0).toNat))).length=(natL (bkN g g.n k)).length:=by rw [hvt]
     have hsl:=nth_some_lt hsq
     have hqk:k≠X1.length:=by have:g.n≤X1.length:=hq2;omega
     have hbkat:∀ A:ABlk,nth (setN X2 X1.length A) (0+((natL (pre++k::left)).getD (pre.length+0) 0).toNat)=some (intR 0 (natL (bkN g g.n k))):=fun A=>by
      rw [hvt,nth_setN hsl,if_neg hqk];exact hX2 k hkn
     rw [List.length_cons] at hsz
     have hsz1:(pre++[k]).length+(left++bkN g g.n k).length+backM g (setS8 seen k) g.n≤4096*(4096*2000+2):=by
      rw [natL_len] at hbl
      rw [List.length_append,List.length_append,List.length_singleton];omega
     have hsz2:([]:List Nat).length+(left++bkN g g.n k).length+backM g (setS8 seen k) g.n≤4096*(4096*2000+2):=by
      rw [natL_len] at hbl
      rw [List.length_append,List.length_nil];omega
     have hmu:backM g (setS8 seen k) g.n+(left++bkN g g.n k).length<backM g seen g.n+(left.length+1):=by
      rw [natL_len] at hbl
      rw [List.length_append];omega
     have hB1:BackI g (setS8 seen k) (left++bkN g g.n k):=hB.take fun j=>by rw [bkN_back];exact backL_mem
     have hX3:∀ A:ABlk,XOk g.n (bkN g g.n) (setN X2 X1.length A):=fun A j hj=>by
      rw [nth_setN hsl,if_neg (by have:g.n≤X1.length:=hq2;omega)];exact hX2 j hj
     have hs3:nth (setN X2 X1.length (seeA g.n (setS8 seen k))) X1.length=some (seeA g.n (setS8 seen k)):=by rw [nth_setN hsl,if_pos rfl]
     have hse:(ABlk.arr 4 1 0 g.n (updF (fun i=>[.p (.bool (seen i))]) (0+((natL (pre++k::left)).getD (pre.length+0) 0).toNat) [.p (.bool true)])).le (seeA g.n (setS8 seen k)):=by
      refine ABlk.arr_eq rfl fun j hj=>?_
      rw [updF_eq,hvt]
      unfold setS8
      by_cases e:j=k
      ·rw [if_pos e,if_pos e]
      ·rw [if_neg e,if_neg e]
     have hbnd:((natL (pre++k::left)).length+(natL (bkN g g.n (0+((natL (pre++k::left)).getD (pre.length+0) 0).toNat))).length)*8≤140737488355328:=by rw [hbw,hbl,← hlenA];omega
     have hbnd2:(natL (pre++k::left)).length+(natL (bkN g g.n (0+((natL (pre++k::left)).getD (pre.length+0) 0).toNat))).length≤9223372036854775807:=by omega
     have hsl1:AV.slr 7 ver (pre.length+1) (left.length+1 - 1+(natL (bkN g g.n (0+((natL (pre++k::left)).getD (pre.length+0) 0).toNat))).length)=.slr 7 ver (pre++[k]).length (left++bkN g g.n k).length:=by
      rw [hbw,natL_len,List.length_append,List.length_append];rfl
     have hsl2:AV.slr 7 (ver+1) 0 (left.length+1 - 1+(natL (bkN g g.n (0+((natL (pre++k::left)).getD (pre.length+0) 0).toNat))).length)=.slr 7 (ver+1) ([]:List Nat).length (left++bkN g g.n k).length:=by
      rw [hbw,natL_len,List.length_append];rfl
     have hrow1:(ABlk.arr 3 1 ver ((natL (pre++k::left)).length+(natL (bkN g g.n (0+((natL (pre++k::left)).getD (pre.length+0) 0).toNat))).length) (catF (natL (pre++k::left)).length (fun i=>[intV ((natL (pre++k::left)).getD i 0)]) fun i=>(fun i=>[intV ((natL (bkN g g.n k)).getD i 0)]) (i+0))).le (intR ver (natL ((pre++[k])++(left++bkN g g.n k)))):=by
      rw [show natL ((pre++[k])++(left++bkN g g.n k))=natL (pre++k::left)++natL (bkN g g.n k) by simp [natL]]
      exact intR_cat rfl hbw (fun _ _=>rfl) fun _ _=>rfl
     have hrow2:(ABlk.arr 3 1 (ver+1) (left.length+1 - 1+(natL (bkN g g.n (0+((natL (pre++k::left)).getD (pre.length+0) 0).toNat))).length) (catF (left.length+1 - 1) (fun i=>(fun i=>[intV ((natL (pre++k::left)).getD i 0)]) (i+(pre.length+1))) fun i=>(fun i=>[intV ((natL (bkN g g.n k)).getD i 0)]) (i+0))).le (intR (ver+1) (natL ([]++(left++bkN g g.n k)))):=by
      rw [show natL ([]++(left++bkN g g.n k))=natL left++natL (bkN g g.n k) by simp [natL]]
      refine intR_cat (by rw [natL_len];rfl) hbw (fun i hi=>?_) fun _ _=>rfl
      rw [natL_len] at hi
      have e:natL (pre++k::left)=natL (pre++[k])++natL left:=by simp [natL]
      show [intV ((natL (pre++k::left)).getD (i+(pre.length+1)) 0)]=_
      rw [e,getD_right (by rw [natL_len,List.length_append,List.length_singleton];omega),natL_len,List.length_append,List.length_singleton,Nat.add_sub_cancel]
     have hlenB:pre.length+1+(left.length+1 - 1)=(natL (pre++k::left)).length:=by omega
     conv=>whnf
     refine two_true (decide_eq_true hl0) ?_
     conv=>whnf
     refine Chk.mk ⟨rfl,hlenA,by decide,hl1,rfl⟩ ?_
     conv=>whnf
     refine Chk.mk ⟨rfl,rfl⟩ ?_
     conv=>whnf
     refine Chk.mk ⟨rfl,hlenA,by decide,hl2,rfl⟩ ?_
     conv=>whnf
     conv in (nth _ _)=>tactic=>exact hsq
     conv=>whnf
     refine Chk.mk ⟨rfl,Nat.zero_add _,hva,hvb,rfl⟩ ?_
     conv=>whnf
     conv in (nth _ _)=>tactic=>exact hsq
     conv=>whnf
     refine Chk.mk ⟨rfl,rfl⟩ ?_
     conv=>whnf
     refine two_true (show (!seen (0+((natL (pre++k::left)).getD (pre.length+0) 0).toNat))=true by rw [hvt,hs];rfl) ?_
     conv=>whnf
     conv in (nth _ _)=>tactic=>exact hsq
     conv=>whnf
     refine Chk.mk ⟨rfl,Nat.zero_add _,hva,hvb,rfl⟩ ?_
     conv=>whnf
     conv in (nth _ _)=>tactic=>exact hsq
     conv=>whnf
     refine Chk.mk ⟨rfl,rfl⟩ ?_
     conv=>whnf
     ((first|refine fK_to ?_|refine fL_to ?_|refine fB_to ?_);conv=>whnf)
     refine Chk.mk ⟨rfl,Nat.zero_add _,hva,hvb,rfl⟩ ?_
     conv=>whnf
     refine Chk.mk ⟨rfl,rfl⟩ ?_
     conv=>whnf
     conv in (nth _ _)=>tactic=>exact hbkat _
     conv=>whnf
     refine Chk.mk ⟨rfl,(Nat.zero_add _).trans hbw,rfl,fun _ _=>rfl⟩ ?_
     conv=>whnf
     refine Chk.mk ⟨rfl,hlenB,rfl,rfl,hbnd,hbnd2⟩ (And.intro ?_ ?_)
     ·conv=>whnf
      ((first|refine fK_to ?_|refine fL_to ?_|refine fB_to ?_);conv=>whnf)
      refine hlz _ _ (Le.env ?_ ?_) (ihz ⟨setS8 seen k,pre++[k],left++bkN g g.n k,ver,setN X2 X1.length (seeA g.n (setS8 seen k))⟩ hmu ⟨hB1,hX3 _,hq2,hs3,hsz1⟩)
      ·exact⟨AV.le_refl _,AV.le_refl _,AV.le_of_eq hsl1,AV.le_refl _,trivial⟩
      ·exact⟨ABlk.le_refl _,ABlk.le_refl _,ABlk.le_refl _,ABlk.le_refl _,ABlk.le_refl _,ABlk.le_refl _,ABlk.le_refl _,hrow1,lesK_setN2 (lesK.refl _) _ hse⟩
     ·conv=>whnf
      ((first|refine fK_to ?_|refine fL_to ?_|refine fB_to ?_);conv=>whnf)
      refine hlz _ _ (Le.env ?_ ?_) (ihz ⟨setS8 seen k,[],left++bkN g g.n k,ver+1,setN X2 X1.length (seeA g.n (setS8 seen k))⟩ hmu ⟨hB1,hX3 _,hq2,hs3,hsz2⟩)
      ·exact⟨AV.le_refl _,AV.le_refl _,AV.le_of_eq hsl2,AV.le_refl _,trivial⟩
      ·exact⟨ABlk.le_refl _,ABlk.le_refl _,ABlk.le_refl _,ABlk.le_refl _,ABlk.le_refl _,ABlk.le_refl _,ABlk.le_refl _,hrow2,lesK_setN2 (lesK.refl _) _ hse⟩
  ·refine⟨back0 fun i=>endsP_mem,fun j hj=>nth_snoc_l (hX j hj),hXl,?_,?_⟩
   ·show nth (snoc X1 _) X1.length=_
    rw [← len_length,nth_snoc]
   ·show 0+(endsP g g.n).length+backM g (fun _=>false) g.n≤_
    omega
end Go.Proofs.YtcmepkfefoidcaaGreatDoor
namespace Go.Proofs.YtcmepkfefoidcaaGreatDoor
open Go.AE Go.Ru Go.Bi
set_option maxRecDepth 100000
set_option maxHeartbeats 400000
def boxS (S:Nat→Bool):ABlk:=.box 88 (pvs (wsS S))
theorem boxS_congr {S R:Nat→Bool} (h:∀ n,n<4096→S n=R n):boxS S=boxS R:=by unfold boxS;rw [wsS_congr h]
theorem boxS_zero {S:Nat→Bool} (h:∀ n,S n=false):ABlk.box 88 (pvs (ws zeroW))=boxS S:=by
 unfold boxS wsS
 rw [ws_congr (words_same (S:=S) wOk_zero fun n _=>by rw [has_zero,h n])]
def passF (P:Nat→Nat→Bool) (i:Nat):List PV:=wsS (P i)
def passA (n:Nat) (P:Nat→Nat→Bool):ABlk:=.arr 88 64 0 n fun i=>pvs (passF P i)
def passV (n:Nat) (P:Nat→Nat→Bool):AV:=.p (.sl 64 n (passF P))
theorem catS_eq {A:Nat→Bool} {i k:Nat} (hk:k<i+1):catF i (fun _=>pvs (wsS A)) (fun k=>takeN (dropN (pvs (wsS A)) (k*64)) 64) k=pvs (wsS A):=by
 by_cases h:k<i
 ·rw [catF_lt h]
 ·obtain rfl:k=i:=by omega
  rw [catF_ge (Nat.le_refl _),Nat.sub_self];rfl
theorem cls_upd {m i k:Nat} {f:Nat→List AV} {c:List AV} (hc:AV.cls m c=true) (hf:∀ j,AV.cls m (f j)=true):AV.cls m (updF f i c k)=true:=by
 rw [updF_eq]
 split
 ·exact hc
 ·exact hf k
def cSame:AC:=fun args K k=>∃ S R,args=[setS S,setS R]∧∀ b,(b=true↔∀ m,m<4096→S m=R m)→k (.ret (.p (.bool b))) K
def cAnd:AC:=fun args K k=>∃ S R,args=[setS S,setS R]∧k (.ret (setS (andS S R))) K
def gSe:AG:=gput 71 (cSetN insS) (gput 69 cEnds (gput 72 cAnd (gput 73 cSame g0)))
theorem gSe_ok:GOk Tryz.prog gSe:=gput_ok with_ok (gput_ok ends_ok (gput_ok and_ok (gput_ok same_ok g0_ok)))
def cSettle:AC:=fun args K k=>∃ s N X,args=[.ptr 2 0 1 0 0,graphW s,rowsV (pgN s.f N)]∧K=poK s N (.p .nils) (.p .nils)++X∧NdsOk s N∧LaidOk s.f N∧(∀ P,Pass (pgN s.f N) P→k (.ret (.tup [])) (poK s N (passV N.length P) (.p .nils)++X))
def seK (s:BSt) (N:List Int) (a:AV) (S:Nat→Bool):List ABlk:=poK s N a (.p .nils)++[grW s,boxS S]
theorem settle_ok:COk 44 cSettle:=by
 rintro args K k ⟨s,N,X,rfl,rfl,hN,hL,hk⟩
 obtain⟨g,hg⟩:∃ g,pgN s.f N=g:=⟨_,rfl⟩
 rw [hg]
 refine frameZ (K0:=poK s N (.p .nils) (.p .nils)) (X:=X) gSe_ok 19 rfl ⟨rfl,fun _ _ h=>plG_cl h,rfl,fun _ _=>rfl,trivial⟩ fun Q hr=>?_
 have hn0:=hN.n
 have hnl:=hN.len
 have hgn:g.n=N.length:=by rw [← hg];rfl
 rw [hg] at hk
 have hok:PGok g:=⟨by rw [← hg];exact pgN_rng hL.in_,fun i hi=>by rw [hgn] at hi;have:=hL.live i hi;rwa [hg] at this⟩
 have hnx:∀ i,i<g.n→∀ x:Nat,N.getD i 0=(x:Int)→g.en i=endB (s.f x):=fun i hi x hx=>by
  subst hg
  have e:(N.getD i 0).toNat=x:=by rw [hx];rfl
  simp only [pgN,e]
 have hsm:∀ q,q<g.n→(g.nx q).length<4096:=fun q hq=>by
  obtain⟨x2,hx2,hxn2⟩:=hN.in_ q (by omega)
  have:=hN.short x2 hxn2
  have e:(N.getD q 0).toNat=x2:=by rw [hx2];rfl
  subst hg
  simp only [pgN,e,List.length_map]
  unfold wayN
  split<;>simp<;>omega
 conv=>whnf
 refine loop_up (ι:=Nat) [0,2,4,6,16] (fun i=>[(17,intV i)]) (fun i=>[(5,boxS fun k=>decide (k<i))]) (fun i=>i≤N.length) (fun i=>N.length - i) 0 ⟨AV.le_refl _,trivial⟩ ⟨upLe1 rfl (ABlk.le_of_eq (boxS_zero fun k=>by simp)),trivial⟩ (Nat.zero_le _) ?_
 rintro Y hle i hi ih
 by_cases h:i<N.length
 ·have h':(i:Int)<(N.length:Int):=by omega
  have hw1:=wzz (i:=i) (by omega)
  have hS:setS (insS (fun k=>decide (k<i)) i)=setS fun k=>decide (k<i+1):=setS_congr fun m _=>by
   unfold insS
   rw [Bool.eq_iff_iff]
   simp
   omega
  conv=>whnf
  refine two_true (decide_eq_true h') ?_
  conv=>whnf
  refine⟨fun k=>decide (k<i),i,rfl,by omega,?_⟩
  rw [hS]
  conv=>whnf
  refine hle _ _ (Le.env ?_ ?_) (ih (i+1) (by omega) (by omega))
  ·skip
   repeat' (first|exact trivial|((conv=>whnf);first|exact trivial|refine⟨AV.le_refl _,?_⟩|refine⟨ABlk.le_refl _,?_⟩|(refine⟨AV.le_of_eq ?_,?_⟩;focus ((first|exact congrArg intV hw1|fail);done))|(refine⟨ABlk.le_of_eq ?_,?_⟩;focus ((first|exact congrArg intV hw1|fail);done))|fail)|fail)
  ·skip
   repeat' (first|exact trivial|((conv=>whnf);first|exact trivial|refine⟨AV.le_refl _,?_⟩|refine⟨ABlk.le_refl _,?_⟩|fail)|fail)
 ·obtain rfl:i=N.length:=by omega
  have h':¬ ((N.length:Nat):Int)<(N.length:Int):=by omega
  conv=>whnf
  refine two_false (decide_eq_false h') ?_
  conv=>whnf
  refine loop_nil (ι:=Nat) 88 64 (fun _=>pvs (wsS fun k=>decide (k<N.length))) (fun i=>⟨[(0,.ptr 2 0 1 0 0),(2,rowsV g),(4,.ptr 4 0 1 0 0),(6,.ptr 5 0 1 0 0),(28,intV N.length),(29,intV i)],seK s N (.slr 6 0 0 i) (fun k=>decide (k<N.length))++[.arr 88 64 0 i fun _=>pvs (wsS fun k=>decide (k<N.length))]⟩)
   (fun i=>i≤N.length) (fun i=>N.length - i) 0 (seK s N (.slr 6 0 0 0) (fun k=>decide (k<N.length))) rfl
   ⟨.inl (AV.le_refl _),.inl (AV.le_refl _),.inl (AV.le_refl _),.inl (AV.le_refl _),.inl (AV.le_refl _),.inl (AV.le_refl _),trivial⟩
   ⟨.inl (ABlk.le_refl _),.inl (ABlk.le_refl _),.inr ⟨_,_,_,rfl,rfl,.inl (AV.le_refl _),.inl (AV.le_refl _),.inr ⟨rfl,rfl⟩,.inl (AV.le_refl _),trivial⟩,.inl (ABlk.le_refl _),.inl (ABlk.le_refl _),.inl (ABlk.le_refl _),trivial⟩ rfl (Nat.zero_le _) ?_
  rintro Y2 hle2 i hi2 ih2
  by_cases h:i<N.length
  ·have h2:(i:Int)<(N.length:Int):=by omega
   have hw1:=wzz (i:=i) (by omega)
   conv=>whnf
   refine two_true (decide_eq_true h2) ?_
   conv=>whnf
   repeat ((refine And.intro ?_ ?_);(focus ((conv=>whnf);done));conv=>whnf)
   refine Chk.mk ⟨rfl,rfl,rfl,allLt_ok ⟨trivial,rfl⟩⟩ ?_
   conv=>whnf
   refine Chk.mk ⟨rfl,rfl,rfl,rfl,(by show (i+1)*512≤140737488355328;omega),(by show i+1≤9223372036854775807;omega)⟩ ?_
   conv=>whnf
   repeat ((refine And.intro ?_ ?_);(focus ((conv=>whnf);done));conv=>whnf)
   refine hle2 _ _ (Le.cutEnv 7 rfl rfl ⟨rfl,fun _ _ h=>plG_cl h,rfl,fun _ _=>rfl,rfl,rfl,fun k hk=>(congrArg (AV.cls 7) (catS_eq (A:=fun k=>decide (k<N.length)) hk)).trans rfl,trivial⟩ ?_ ?_) (ih2 (i+1) (by omega) (by omega))
   ·exact⟨AV.le_refl _,AV.le_refl _,AV.le_refl _,AV.le_refl _,AV.le_refl _,AV.le_of_eq (congrArg intV hw1),trivial⟩
   ·exact⟨ABlk.le_refl _,ABlk.le_refl _,ABlk.le_refl _,ABlk.le_refl _,ABlk.le_refl _,ABlk.le_refl _,ABlk.arr_eq rfl fun k hk=>catS_eq hk,trivial⟩
  ·obtain rfl:i=N.length:=by omega
   conv=>whnf
   refine two_false (decide_eq_false h') ?_
   conv=>whnf
   refine loop_up (ι:=Nat→Nat→Bool) [0,2,4,6] (fun _=>[]) (fun P=>[(6,passA N.length P)]) (fun P=>SInv g P∧∀ i,i<g.n→∀ k,P i k=true→k<g.n) (fun P=>sumP g P g.n) (allP g.n) trivial ⟨upLe1 rfl (ABlk.le_of_eq (by unfold passA passF allP;rw [hgn])),trivial⟩ ⟨sinv0 hok,fun i _ k hk=>of_decide_eq_true hk⟩ ?_
   rintro Y3 hle3 P ⟨hP,hPr⟩ ih3
   have hwn:IntKind.i64.wrap ((N.length:Int) - 1)=(N.length:Int) - 1:=w64 ⟨by omega,by omega⟩
   conv=>whnf
   refine loop_up (ι:=Int) [0,2,4,6] (fun w=>[(8,intV w)]) (fun _=>[]) (fun w=>-1≤w∧w<(N.length:Int)∧∀ k:Nat,w<(k:Int)→k<N.length→∀ m,m<4096→FP g P k m=P k m) (fun w=>(w+1).toNat) ((N.length:Int) - 1) ⟨AV.le_of_eq (congrArg intV hwn),trivial⟩ trivial ⟨by omega,by omega,fun k h1 h2=>by omega⟩ ?_
   rintro Y4 hle4 w ⟨hw0,hwl,hfix⟩ ih4
   by_cases hw:0≤w
   ·obtain⟨i,rfl⟩:∃ i:Nat,w=(i:Int):=⟨w.toNat,by omega⟩
    have hil:i<N.length:=by omega
    have hi0:(0:Int)≤(i:Int):=by omega
    obtain⟨x,hx,hxn⟩:=hN.in_ i hil
    have hge:=hnx i (by omega) x hx
    have hx0:N.getD (0+i) 0=(x:Int):=by rw [Nat.zero_add];exact hx
    have hxa:(0:Int)≤N.getD (0+i) 0:=by rw [hx0];omega
    have hxb:N.getD (0+i) 0<(s.n:Int):=by rw [hx0];omega
    have hxt:(N.getD (0+i) 0).toNat=x:=by rw [hx0];rfl
    have hig:i<g.n:=by omega
    have hig':(i:Int)<(g.n:Int):=by omega
    have hsh:=hsm i (by omega)
    conv=>whnf
    refine Chk.mk ⟨rfl,Nat.zero_add _,hi0,hwl,rfl⟩ ?_
    conv=>whnf
    refine Chk.mk ⟨rfl,rfl⟩ ?_
    conv=>whnf
    refine Chk.mk ⟨hxa,hxb,rfl⟩ ?_
    conv=>whnf
    refine⟨s.f (N.getD (0+i) 0).toNat,g.en i,rfl,(by rw [hxt,hge]),?_⟩
    have hwi:IntKind.i64.wrap ((i:Int) - 1)=(i:Int) - 1:=w64 ⟨by omega,by omega⟩
    have hins:setS (insS (sT g P i (g.nx i).length) i)=setS (FP g P i):=setS_congr fun m _=>sT_all (Nat.le_refl _) m
    have hFr:∀ k,FP g P i k=true→k<g.n:=fun k hk=>by
     have:=hP.desc i hig k hk
     exact hPr i hig k this
    have hpa:(ABlk.arr 88 64 0 N.length (updF (fun i=>pvs (passF P i)) (0+i) (pvs (wsS (FP g P i))))).le (passA N.length (setP P i (FP g P i))):=by
     refine ABlk.arr_eq rfl fun j hj=>?_
     rw [updF_eq,Nat.zero_add]
     unfold passF setP
     by_cases e:j=i
     ·rw [if_pos e,if_pos e]
     ·rw [if_neg e,if_neg e]
    conv=>whnf
    refine two_intro (fun he=>?_) (fun he=>?_)
    all_goals
     conv=>whnf
     refine Chk.mk ⟨hi0,hig',rfl⟩ ?_
     conv=>whnf
     refine loop_up (ι:=Nat) [0,2,4,6,8,9,69,70] (fun t=>[(71,intV t)]) (fun t=>[(7,boxS (sT g P i t))]) (fun t=>t≤(g.nx i).length) (fun t=>(g.nx i).length - t) 0 ⟨AV.le_refl _,trivial⟩
      ⟨upLe1 rfl (ABlk.le_of_eq (by first|exact boxS_zero (fun k=>by rw [sT_zero,he];rfl)|exact boxS_congr (fun k _=>by rw [sT_zero,he,hgn];simp))),trivial⟩ (Nat.zero_le _) ?_
     rintro Y5 hle5 t ht ih5
     by_cases htl:t<(g.nx i).length
     ·have ht':(t:Int)<((g.nx i).length:Int):=by omega
      have hwt:=wzz (i:=t) (by omega)
      obtain⟨j,hj⟩:∃ j,(g.nx i).getD t 0=j:=⟨_,rfl⟩
      have hjn:j<g.n:=by
       refine hok.rng i hig j ?_
       rw [← hj,List.getD_eq_getElem?_getD,List.getElem?_eq_getElem htl]
       exact List.getElem_mem htl
      have hvj:(natL (g.nx i)).getD t 0=(j:Int):=by
       rw [← hj,List.getD_eq_getElem?_getD,List.getD_eq_getElem?_getD]
       unfold natL
       rw [List.getElem?_map,List.getElem?_eq_getElem htl];rfl
      have hv0:0≤(natL (g.nx i)).getD t 0:=by rw [hvj];omega
      have hv1:(natL (g.nx i)).getD t 0<(N.length:Int):=by rw [hvj];omega
      have hvt:0+((natL (g.nx i)).getD t 0).toNat=j:=by rw [hvj];simp
      have hand:setS (andS (sT g P i t) (P (0+((natL (g.nx i)).getD t 0).toNat)))=setS (sT g P i (t+1)):=setS_congr fun m _=>by rw [hvt,sT_succ htl,hj];rfl
      conv=>whnf
      refine two_true (decide_eq_true ht') ?_
      conv=>whnf
      refine Chk.mk ⟨Int.natCast_nonneg t,ht',rfl⟩ ?_
      conv=>whnf
      refine Chk.mk ⟨rfl,Nat.zero_add _,hv0,hv1,rfl⟩ ?_
      conv=>whnf
      refine Chk.mk ⟨rfl,rfl⟩ ?_
      conv=>whnf
      refine⟨sT g P i t,P (0+((natL (g.nx i)).getD t 0).toNat),rfl,?_⟩
      rw [hand]
      conv=>whnf
      refine hle5 _ _ (Le.env ?_ ?_) (ih5 (t+1) (by omega) (by omega))
      ·skip
       repeat' (first|exact trivial|((conv=>whnf);first|exact trivial|refine⟨AV.le_refl _,?_⟩|refine⟨ABlk.le_refl _,?_⟩|(refine⟨AV.le_of_eq ?_,?_⟩;focus ((first|exact congrArg intV hwt|fail);done))|(refine⟨ABlk.le_of_eq ?_,?_⟩;focus ((first|exact congrArg intV hwt|fail);done))|fail)|fail)
      ·skip
       repeat' (first|exact trivial|((conv=>whnf);first|exact trivial|refine⟨AV.le_refl _,?_⟩|refine⟨ABlk.le_refl _,?_⟩|fail)|fail)
     ·obtain rfl:t=(g.nx i).length:=by omega
      have ht':¬ (((g.nx i).length:Nat):Int)<((g.nx i).length:Int):=by omega
      conv=>whnf
      refine two_false (decide_eq_false ht') ?_
      conv=>whnf
      refine⟨sT g P i (g.nx i).length,i,rfl,by omega,?_⟩
      rw [hins]
      conv=>whnf
      refine Chk.mk ⟨rfl,Nat.zero_add _,hi0,hwl,rfl⟩ ?_
      conv=>whnf
      refine Chk.mk ⟨rfl,rfl⟩ ?_
      conv=>whnf
      refine⟨FP g P i,P (0+i),rfl,fun b hb=>?_⟩
      rw [Nat.zero_add] at hb
      cases b with
      | true =>
       have hb:=hb.1 rfl
       conv=>whnf
       refine hle4 _ _ (Le.cutEnv 7 rfl rfl ⟨rfl,fun _ _ h=>plG_cl h,rfl,fun _ _=>rfl,rfl,rfl,fun _ _=>rfl,trivial⟩ ?_ ?_) (ih4 ((i:Int) - 1) (by omega) ⟨by omega,by omega,fun k h1 h2 m hm=>?_⟩)
       ·skip
        repeat' (first|exact trivial|((conv=>whnf);first|exact trivial|refine⟨AV.le_refl _,?_⟩|refine⟨ABlk.le_refl _,?_⟩|(refine⟨AV.le_of_eq ?_,?_⟩;focus ((first|exact congrArg intV hwi|fail);done))|(refine⟨ABlk.le_of_eq ?_,?_⟩;focus ((first|exact congrArg intV hwi|fail);done))|fail)|fail)
       ·skip
        repeat' (first|exact trivial|((conv=>whnf);first|exact trivial|refine⟨AV.le_refl _,?_⟩|refine⟨ABlk.le_refl _,?_⟩|fail)|fail)
       ·by_cases e:k=i
        ·rw [e];exact hb m hm
        ·exact hfix k (by omega) h2 m hm
      | false =>
       have hlt:((List.range g.n).filter (FP g P i)).length<cntP g P i:=by
        have hne:¬ ∀ m,m<4096→FP g P i m=P i m:=fun e=>by have:=hb.2 e;cases this
        have hsub:∀ m,FP g P i m=true→P i m=true:=fun m hm=>hP.desc i hig m hm
        apply Classical.byContradiction
        intro hn
        refine hne fun m _=>?_
        cases hf:FP g P i m with
        | true=>rw [hsub m hf]
        | false =>
         cases hp:P i m with
         | false=>rfl
         | true=>exact absurd (Go.Ru.filter_lt hsub (List.mem_range.2 (hPr i hig m hp)) hp hf) hn
       conv=>whnf
       refine Chk.mk ⟨rfl,Nat.zero_add _,hi0,hwl,rfl⟩ ?_
       conv=>whnf
       refine Chk.mk ⟨rfl,rfl⟩ ?_
       conv=>whnf
       refine hle3 _ _ (Le.cutEnv 7 rfl rfl ⟨rfl,fun _ _ h=>plG_cl h,rfl,fun _ _=>rfl,rfl,rfl,fun k _=>cls_upd rfl fun _=>rfl,trivial⟩ ?_ ?_) (ih3 (setP P i (FP g P i)) (sumP_less hlt hig) ⟨hP.upd hok hig,fun j hj k hk=>?_⟩)
       ·skip
        repeat' (first|exact trivial|((conv=>whnf);first|exact trivial|refine⟨AV.le_refl _,?_⟩|refine⟨ABlk.le_refl _,?_⟩|fail)|fail)
       ·exact⟨ABlk.le_refl _,ABlk.le_refl _,ABlk.le_refl _,ABlk.le_refl _,ABlk.le_refl _,ABlk.le_refl _,hpa,trivial⟩
       ·unfold setP at hk
        by_cases e:j=i
        ·rw [if_pos e] at hk;exact hFr k hk
        ·rw [if_neg e] at hk;exact hPr j hj k hk
   ·have hw':¬ (w≥0):=by omega
    have hpass:Pass g P:=hP.pass hok fun i hi k hk=>by
     rw [hfix i (by omega) (by omega) k (by have:=hPr i hi k hk;omega)];exact hk
    conv=>whnf
    refine two_false (decide_eq_false hw') ?_
    conv=>whnf
    exact hr _ _ (.tup []) (poK s N (passV N.length P) (.p .nils)) [grW s,boxS fun k=>decide (k<N.length),.dead] (Wk1.fz (r:=6) (passF P) rfl (fun _ _=>rfl) ⟨.inl (ABlk.le_refl _),.inl (ABlk.le_refl _),.inr ⟨_,_,_,rfl,rfl,.inl (AV.le_refl _),.inl (AV.le_refl _),.inr ⟨rfl,rfl⟩,.inl (AV.le_refl _),trivial⟩,.inl (ABlk.le_refl _),.inl (ABlk.le_refl _),.inl (ABlk.le_refl _),.inl (ABlk.le_refl _),trivial⟩ (AV.le_refl _)) rfl rfl ⟨rfl,fun _ _ h=>plG_cl h,rfl,fun _ _=>rfl,trivial⟩ (hk P hpass)
end Go.Proofs.YtcmepkfefoidcaaGreatDoor
namespace Go.Ru
open Go.Bi
set_option maxRecDepth 100000
def bestL (c:Nat→Nat) (l:List Nat):Option Nat×Nat:=l.foldl (fun b k=>if c k>b.2 then (some k,c k) else b) (none,0)
theorem bestL_ok (c:Nat→Nat) (l:List Nat):∀ t,t≤l.length→BestOk c (l.take t) (bestL c (l.take t)):=by
 intro t
 induction t with
 | zero=>intro _;exact best0 c
 | succ t ih =>
  intro ht
  rw [List.take_add_one,List.getElem?_eq_getElem (by omega)]
  have h:=(ih (by omega)).snoc l[t]
  have e:bestL c (l.take t++(some l[t]).toList)=if c l[t]>(bestL c (l.take t)).2 then (some l[t],c l[t]) else bestL c (l.take t):=by
   unfold bestL
   rw [List.foldl_append]
   rfl
  rw [e]
  exact h
theorem bestL_succ (c:Nat→Nat) (l:List Nat) {t:Nat} (ht:t<l.length):bestL c (l.take (t+1))=if c (l.getD t 0)>(bestL c (l.take t)).2 then (some (l.getD t 0),c (l.getD t 0)) else bestL c (l.take t):=by
 rw [List.take_add_one,List.getElem?_eq_getElem ht,List.getD_eq_getElem?_getD,List.getElem?_eq_getElem ht]
 unfold bestL
 rw [List.foldl_append]
 rfl
theorem filter_len {S:Nat→Bool} {n:Nat} (h:∀ m,S m=true→m<n):∀ d,((List.range (n+d)).filter S).length=((List.range n).filter S).length
 | 0=>rfl
 | d+1=>by
  rw [← Nat.add_assoc,List.range_succ,List.filter_append,List.length_append,filter_len h d]
  have:S (n+d)=false:=by
   cases hs:S (n+d) with
   | false=>rfl
   | true=>have:=h _ hs;omega
  simp [this]
theorem cnt_list {g:PG} {P:Nat→Nat→Bool} {k:Nat} (hn:g.n≤4096) (h:∀ m,P k m=true→m<g.n):(Go.Bi.listS (P k) 4096).length=cntP g P k:=by
 have:=filter_len h (4096 - g.n)
 rw [show g.n+(4096 - g.n)=4096 by omega] at this
 exact this
def bestN (P:Nat→Nat→Bool) (i:Nat):Option Nat:=(bestL (fun k=>(Go.Bi.listS (P k) 4096).length) (Go.Bi.listS (remS (P i) i) 4096)).1
theorem bestN_ok {g:PG} {P:Nat→Nat→Bool} (hP:Pass g P) (ok:PGok g) (hn:g.n≤4096):Nexts g (bestN P):=⟨fun i hi=>by
 have hr:∀ i,i<g.n→∀ m,P i m=true→m<g.n:=fun i hi m hm=>((hP.iff i hi m).1 hm).rng ok hi
 have hb:=bestL_ok (fun k=>(Go.Bi.listS (P k) 4096).length) (Go.Bi.listS (remS (P i) i) 4096) _ (Nat.le_refl _)
 rw [List.take_length] at hb
 have hmem:∀ k,k∈Go.Bi.listS (remS (P i) i) 4096↔k≠i∧P i k=true:=fun k=>by
  rw [Go.Bi.mem_listS]
  unfold remS
  simp only [Bool.and_eq_true,Bool.not_eq_true',decide_eq_false_iff_not]
  constructor
  ·rintro⟨_,h1,h2⟩;exact⟨h2,h1⟩
  ·rintro⟨h1,h2⟩;exact⟨by have:=hr i hi k h2;omega,h2,h1⟩
 have hb2:BestOk (cntP g P) (Go.Bi.listS (remS (P i) i) 4096) (bestL (fun k=>(Go.Bi.listS (P k) 4096).length) (Go.Bi.listS (remS (P i) i) 4096)):=by
  have hc:∀ k∈Go.Bi.listS (remS (P i) i) 4096,(Go.Bi.listS (P k) 4096).length=cntP g P k:=fun k hk=>cnt_list hn (hr k (hr i hi k ((hmem k).1 hk).2))
  refine⟨fun m hm=>?_,fun k e=>?_,hb.none⟩
  ·rw [← hc m hm];exact hb.all m hm
  ·obtain⟨h1,h2⟩:=hb.fst k e
   exact⟨h1,by rw [← hc k h1];exact h2⟩
 exact near_best hP ok hi hmem hb2⟩
end Go.Ru
namespace Go.Proofs.YtcmepkfefoidcaaGreatDoor
open Go.AE Go.Ru Go.Bi
set_option maxRecDepth 100000
set_option maxHeartbeats 400000
def nxI:Option Nat→Int
 | none=>-1
 | some k=>(k:Int)
def nextF (nx:Nat→Option Nat) (i:Nat):List PV:=[.int .i64 (nxI (nx i))]
def nextV (n:Nat) (nx:Nat→Option Nat):AV:=.p (.sl 1 n (nextF nx))
theorem nextR_one {nx:Nat→Option Nat} {i k:Nat} (hk:k<i+1):catF i (fun j=>pvs (nextF nx j)) (fun j=>takeN (dropN [intV (nxI (nx i))] (j*1)) 1) k=pvs (nextF nx k):=by
 by_cases h:k<i
 ·rw [catF_lt h]
 ·obtain rfl:k=i:=by omega
  rw [catF_ge (Nat.le_refl _),Nat.sub_self];rfl
def gNr:AG:=gput 74 (cSetN remS) (gput 75 cList (gput 76 cCount g0))
theorem gNr_ok:GOk Tryz.prog gNr:=gput_ok without_ok (gput_ok list_ok (gput_ok count_ok g0_ok))
def cNearest:AC:=fun args K k=>∃ s N P X,args=[.ptr 2 0 1 0 0]∧K=poK s N (passV N.length P) (.p .nils)++X∧List.length N<4096∧(∀ i,i<List.length N→∀ m,P i m=true→m<List.length N)∧k (.ret (.tup [])) (poK s N (passV N.length P) (nextV N.length (bestN P))++X)
theorem nearest_ok:COk 45 cNearest:=by
 rintro args K k ⟨s,N,P,X,rfl,rfl,hN,hPr,hk⟩
 refine frameZ (K0:=poK s N (passV N.length P) (.p .nils)) (X:=X) gNr_ok 19 rfl ⟨rfl,fun _ _ h=>plG_cl h,rfl,fun _ _=>rfl,trivial⟩ fun Q hr=>?_
 conv=>whnf
 refine loop_nil (ι:=Nat) 3 1 (fun i=>pvs (nextF (bestN P) i)) (fun i=>⟨[(0,.ptr 2 0 1 0 0),(12,intV N.length),(13,intV i)],poK s N (passV N.length P) (.slr 4 0 0 i)++[.arr 3 1 0 i fun i=>pvs (nextF (bestN P) i)]⟩)
  (fun i=>i≤N.length) (fun i=>N.length - i) 0 (poK s N (passV N.length P) (.slr 4 0 0 0)) rfl
  ⟨.inl (AV.le_refl _),.inl (AV.le_refl _),.inl (AV.le_refl _),trivial⟩
  ⟨.inl (ABlk.le_refl _),.inl (ABlk.le_refl _),.inr ⟨_,_,_,rfl,rfl,.inl (AV.le_refl _),.inl (AV.le_refl _),.inl (AV.le_refl _),.inr ⟨rfl,rfl⟩,trivial⟩,.inl (ABlk.le_refl _),trivial⟩ rfl (Nat.zero_le _) ?_
 rintro Y hle i hi ih
 by_cases h:i<N.length
 ·have h':(i:Int)<(N.length:Int):=by omega
  have hi0:(0:Int)≤(i:Int):=by omega
  have hw1:=wzz (i:=i) (by omega)
  obtain⟨l,hl⟩:∃ l,Go.Bi.listS (remS (P i) i) 4096=l:=⟨_,rfl⟩
  have hln:∀ t,t<l.length→l.getD t 0<N.length:=fun t ht=>by
   have:l.getD t 0∈l:=by rw [List.getD_eq_getElem?_getD,List.getElem?_eq_getElem ht];exact List.getElem_mem ht
   rw [← hl,Go.Bi.mem_listS] at this
   have h2:=this.2
   rw [hl] at h2
   unfold remS at h2
   rw [Bool.and_eq_true] at h2
   exact hPr i h _ h2.1
  have hll:l.length≤4096:=hl▸listS_len _ _
  obtain⟨c,hc⟩:∃ c,c=fun k=>(Go.Bi.listS (P k) 4096).length:=⟨_,rfl⟩
  have hcl:∀ k,c k≤4096:=fun k=>by rw [hc];exact listS_len _ _
  conv=>whnf
  refine two_true (decide_eq_true h') ?_
  conv=>whnf
  refine Chk.mk ⟨hi0,h',rfl⟩ ?_
  conv=>whnf
  refine⟨P i,i,rfl,by omega,?_⟩
  conv=>whnf
  refine⟨remS (P i) i,rfl,?_⟩
  rw [hl]
  conv=>whnf
  refine loop_up (ι:=Nat) [0,2,12,13,25,26] (fun t=>[(3,intV (nxI (bestL c (l.take t)).1)),(4,intV (bestL c (l.take t)).2),(27,intV t)]) (fun _=>[]) (fun t=>t≤l.length) (fun t=>l.length - t) 0 ⟨AV.le_refl _,AV.le_refl _,AV.le_refl _,trivial⟩ trivial (Nat.zero_le _) ?_
  rintro Z hlz t ht ihz
  by_cases htl:t<l.length
  ·have ht':(t:Int)<((natL l).length:Int):=by rw [natL_len];omega
   have hwt:=wzz (i:=t) (by omega)
   obtain⟨j,hj⟩:∃ j,l.getD t 0=j:=⟨_,rfl⟩
   have hjn:=hln t htl
   rw [hj] at hjn
   have hvj:(natL l).getD t 0=(j:Int):=by
    rw [← hj,List.getD_eq_getElem?_getD,List.getD_eq_getElem?_getD]
    unfold natL
    rw [List.getElem?_map,List.getElem?_eq_getElem htl];rfl
   have hv0:0≤(natL l).getD t 0:=by rw [hvj];omega
   have hv1:(natL l).getD t 0<(N.length:Int):=by rw [hvj];omega
   have hvt:((natL l).getD t 0).toNat=j:=by rw [hvj];rfl
   have hb:=bestL_succ c l htl
   rw [hj] at hb
   obtain⟨b,hbb⟩:∃ b,bestL c (l.take t)=b:=⟨_,rfl⟩
   rw [hbb] at hb
   have hcv:((Go.Bi.listS (P ((natL l).getD t 0).toNat) 4096).length:Int)=(c j:Int):=by rw [hvt,hc]
   conv=>whnf
   refine two_true (decide_eq_true ht') ?_
   conv=>whnf
   refine Chk.mk ⟨Int.natCast_nonneg t,ht',rfl⟩ ?_
   conv=>whnf
   refine Chk.mk ⟨hv0,hv1,rfl⟩ ?_
   conv=>whnf
   refine⟨P ((natL l).getD t 0).toNat,rfl,?_⟩
   rw [hcv,hbb]
   conv=>whnf
   refine two_dec (fun hg=>?_) (fun hg=>?_)
   ·have hg:c j>b.2:=by have hg:(c j:Int)>(b.2:Int):=hg;omega
    rw [if_pos hg] at hb
    conv=>whnf
    refine hlz _ _ (Le.env ?_ ?_) (ihz (t+1) (by omega) (by omega))
    ·skip
     repeat' (first|exact trivial|((conv=>whnf);first|exact trivial|refine⟨AV.le_refl _,?_⟩|refine⟨ABlk.le_refl _,?_⟩|(refine⟨AV.le_of_eq ?_,?_⟩;focus ((first|exact congrArg intV hwt|exact congrArg intV (by rw [hb];exact hvj)|exact congrArg intV (by rw [hb])|fail);done))|(refine⟨ABlk.le_of_eq ?_,?_⟩;focus ((first|exact congrArg intV hwt|exact congrArg intV (by rw [hb];exact hvj)|exact congrArg intV (by rw [hb])|fail);done))|fail)|fail)
    ·skip
     repeat' (first|exact trivial|((conv=>whnf);first|exact trivial|refine⟨AV.le_refl _,?_⟩|refine⟨ABlk.le_refl _,?_⟩|fail)|fail)
   ·have hg:¬ c j>b.2:=by have hg:¬ (c j:Int)>(b.2:Int):=hg;omega
    rw [if_neg hg] at hb
    conv=>whnf
    refine hlz _ _ (Le.env ?_ ?_) (ihz (t+1) (by omega) (by omega))
    ·skip
     repeat' (first|exact trivial|((conv=>whnf);first|exact trivial|refine⟨AV.le_refl _,?_⟩|refine⟨ABlk.le_refl _,?_⟩|(refine⟨AV.le_of_eq ?_,?_⟩;focus ((first|exact congrArg intV hwt|exact congrArg intV (by rw [hb])|exact congrArg intV (by rw [hb])|fail);done))|(refine⟨ABlk.le_of_eq ?_,?_⟩;focus ((first|exact congrArg intV hwt|exact congrArg intV (by rw [hb])|exact congrArg intV (by rw [hb])|fail);done))|fail)|fail)
    ·skip
     repeat' (first|exact trivial|((conv=>whnf);first|exact trivial|refine⟨AV.le_refl _,?_⟩|refine⟨ABlk.le_refl _,?_⟩|fail)|fail)
  ·obtain rfl:t=l.length:=by omega
   have ht':¬ ((l.length:Nat):Int)<((natL l).length:Int):=by rw [natL_len];omega
   have hbn:(bestL c (l.take l.length)).1=bestN P i:=by rw [List.take_length,hc,← hl];rfl
   rw [hbn]
   conv=>whnf
   refine two_false (decide_eq_false ht') ?_
   conv=>whnf
   refine Chk.mk ⟨rfl,rfl,rfl,allLt_ok ⟨trivial,rfl⟩⟩ ?_
   conv=>whnf
   refine Chk.mk ⟨rfl,rfl,rfl,rfl,(by show (i+1)*8≤140737488355328;omega),(by show i+1≤9223372036854775807;omega)⟩ ?_
   conv=>whnf
   refine hle _ _ (Le.cutEnv 5 rfl rfl ⟨rfl,fun _ _ h=>plG_cl h,rfl,fun _ _=>rfl,catI_cl (fun _ _=>rfl) (oneI_cl rfl),trivial⟩ ?_ ?_) (ih (i+1) (by omega) (by omega))
   ·exact⟨AV.le_refl _,AV.le_refl _,AV.le_of_eq (congrArg intV hw1),trivial⟩
   ·exact⟨ABlk.le_refl _,ABlk.le_refl _,ABlk.le_refl _,ABlk.le_refl _,ABlk.arr_eq rfl fun k hk=>nextR_one hk,trivial⟩
 ·obtain rfl:i=N.length:=by omega
  have h':¬ ((N.length:Nat):Int)<(N.length:Int):=by omega
  conv=>whnf
  refine two_false (decide_eq_false h') ?_
  conv=>whnf
  exact hr _ _ (.tup []) (poK s N (passV N.length P) (nextV N.length (bestN P))) [.dead] (Wk1.fz (r:=4) (nextF (bestN P)) rfl (fun _ _=>rfl) ⟨.inl (ABlk.le_refl _),.inl (ABlk.le_refl _),.inr ⟨_,_,_,rfl,rfl,.inl (AV.le_refl _),.inl (AV.le_refl _),.inl (AV.le_refl _),.inr ⟨rfl,rfl⟩,trivial⟩,.inl (ABlk.le_refl _),.inl (ABlk.le_refl _),trivial⟩ (AV.le_refl _)) rfl rfl ⟨rfl,fun _ _ h=>plG_cl h,rfl,fun _ _=>rfl,trivial⟩ hk
def plP (N:List Int) (κ:MK):Option PV:=match κ with
 | .i q y=>if q=.i64 then (match posL y N with
  | some i=>some (.int .i64 ((i:Nat):Int))
  | none=>none) else none
 | .s _=>none
def postC (M:PM):List PV:=[.sl 1 M.N.length (kidF M.N),.mp (.int .i64) (plP M.N),.sl 64 M.N.length (passF M.P),.sl 1 M.N.length (nextF M.nx)]
def postV (M:PM):AV:=.rop (postC M) 0
structure GoodP (s:BSt) (proc:Int):Prop where
 lo:0≤proc
 hi:proc<(s.ps.length:Int)
 ok:LaidOk s.f (ndsP s.f proc s.n)
structure PMof (s:BSt) (proc:Int) (M:PM):Prop where
 ok:PMok M
 N:M.N=ndsP s.f proc s.n
 g:M.g=pgN s.f M.N
 good:GoodP s proc
def gNw:AG:=gput 43 cLaid (gput 44 cSettle (gput 45 cNearest g0))
theorem gNw_ok:GOk Tryz.prog gNw:=gput_ok laid_ok (gput_ok settle_ok (gput_ok nearest_ok g0_ok))
def cPoNew:AC:=fun args K k=>∃ s proc,args=[graphW s,intV proc]∧s.n<4096∧(∀ x,x<s.n→(s.f x).nx.length<1000)∧(∀ M,PMof s proc M→k (.ret (.tup [postV M,intV 0])) K)∧(¬ GoodP s proc→k (.ret (.tup [.p .nilp,intV 1])) K)
theorem nds_ok {s:BSt} {proc:Int} (hn:s.n<4096) (hs:∀ x,x<s.n→(s.f x).nx.length<1000):NdsOk s (ndsP s.f proc s.n) where
 n:=hn
 len:=ndsP_len s.f proc s.n
 in_ i hi:=by
  have:(ndsP s.f proc s.n).getD i 0∈ndsP s.f proc s.n:=by rw [List.getD_eq_getElem?_getD,List.getElem?_eq_getElem hi];exact List.getElem_mem hi
  obtain⟨x,h1,h2,_⟩:=ndsP_mem.1 this
  exact⟨x,h1,h2⟩
 short:=hs
theorem fz_post (s:BSt) (M:PM):FzV (poK s M.N (passV M.N.length M.P) (nextV M.N.length M.nx)) (.tup [.ptr 2 0 1 0 0,intV 0]) (.tup [postV M,intV 0]):=by
 refine .tup _ _ rfl fun j hj hj'=>?_
 rcases j with _|_|j
 ·refine .box 2 _ 0 _ (postC M) rfl rfl fun j hj hj'=>?_
  rcases j with _|_|_|_|j
  ·exact Fz.row (g:=kidF M.N) rfl
  ·refine .mp 1 _ (plG M.N) [] (plP M.N) rfl (fun κ hk=>?_) fun κ a p hk ha hp=>?_
   ·unfold plG plP
    cases κ with
    | s l=>simp
    | i q y =>
     by_cases hq:q=.i64
     ·simp only [hq,if_true]
      cases posL y M.N<;>simp
     ·simp [hq]
   ·unfold plG at ha
    unfold plP at hp
    cases κ with
    | s l=>cases ha
    | i q y =>
     by_cases hq:q=.i64
     ·simp only [hq,if_true] at ha hp
      cases hpo:posL y M.N with
      | none=>rw [hpo] at ha;cases ha
      | some i =>
       rw [hpo] at ha hp
       simp only [Option.some.injEq] at ha hp
       subst ha hp
       exact .p _
     ·simp [hq] at ha
  ·exact .p _
  ·exact .p _
  ·exact absurd (show j+1+1+1+1<4 from hj) (by omega)
 ·exact .p _ _ (.p _)
 ·exact absurd (show j+1+1<2 from hj) (by omega)
theorem plG0:ABlk.mp (.int .i64) (fun _=>none) []=.mp (.int .i64) (plG []) []:=by
 congr 1
 funext κ
 cases κ with
 | s l=>rfl
 | i q y =>
  unfold plG posL
  by_cases hq:q=.i64<;>simp [hq]
theorem poNew_ok:COk 14 cPoNew:=by
 rintro args K k ⟨s,proc,rfl,hn,hsh,hk1,hk0⟩
 refine frameZ (K0:=[]) (X:=K) gNw_ok 19 rfl trivial fun Q hr=>?_
 conv=>whnf
 refine two_dec (fun h0=>?_) (fun h0=>?_)
 ·have h0:proc<0:=h0
  conv=>whnf
  exact hr _ _ (.tup [.p .nilp,intV 1]) [] _ (Wk1.refl _ _ _) rfl rfl trivial (hk0 fun h=>by have:=h.lo;omega)
 have h0:¬ proc<0:=h0
 conv=>whnf
 refine two_dec (fun h1=>?_) (fun h1=>?_)
 ·have h1:proc≥(s.ps.length:Int):=h1
  conv=>whnf
  exact hr _ _ (.tup [.p .nilp,intV 1]) [] _ (Wk1.refl _ _ _) rfl rfl trivial (hk0 fun h=>by have:=h.hi;omega)
 have h1:¬ proc≥(s.ps.length:Int):=h1
 conv=>whnf
 refine loop_nil (ι:=Nat) 3 1 (fun i=>[intV (([]:List Int).getD i 0)]) (fun i=>⟨[(1,intV proc),(2,.ptr 0 0 1 0 0),(6,.ptr 2 0 1 0 0),(24,.p (.sl 5 s.n (gnW s.f))),(25,intV s.n),(26,intV i)],poK s (ndsP s.f proc i) (.p .nils) (.p .nils)⟩)
  (fun i=>i≤s.n) (fun i=>s.n - i) 0 [grW s,.mp (.int .i64) (plG []) [],pBox 0 (.p .nils) (.p .nils)] rfl
  ⟨.inl (AV.le_refl _),.inl (AV.le_refl _),.inl (AV.le_refl _),.inl (AV.le_refl _),.inl (AV.le_refl _),.inl (AV.le_refl _),trivial⟩
  ⟨.inl (ABlk.le_refl _),.inl (ABlk.le_of_eq plG0),.inr ⟨_,_,_,rfl,rfl,.inr ⟨rfl,rfl⟩,.inl (AV.le_refl _),.inl (AV.le_refl _),.inl (AV.le_refl _),trivial⟩,trivial⟩ rfl (Nat.zero_le _) ?_
 rintro Y hle i hi ih
 by_cases h:i<s.n
 ·have h':(i:Int)<(s.n:Int):=by omega
  have hi0:(0:Int)≤(i:Int):=by omega
  have hw1:=wzz (i:=i) (by omega)
  have hll:=ndsP_len s.f proc i
  conv=>whnf
  refine two_true (decide_eq_true h') ?_
  conv=>whnf
  refine Chk.mk ⟨hi0,h',rfl⟩ ?_
  conv=>whnf
  refine two_eq (fun hp=>?_) (fun hp=>?_)
  ·have hp:(s.f i).pr=proc:=hp
   have hnd:ndsP s.f proc (i+1)=ndsP s.f proc i++[(i:Int)]:=by simp only [ndsP];rw [if_pos hp]
   have hnl:(ndsP s.f proc (i+1)).length=(ndsP s.f proc i).length+1:=by rw [hnd];simp
   have hbox:(ABlk.box 68 [.slr 3 0 0 ((ndsP s.f proc i).length+1),.mref 1,.p .nils,.p .nils])=pBox (ndsP s.f proc (i+1)).length (.p .nils) (.p .nils):=by rw [hnl];rfl
   have hins:insM (plG (ndsP s.f proc i)) (.i .i64 i) (intV (((ndsP s.f proc i).length:Nat):Int))=plG (ndsP s.f proc (i+1)):=by rw [plG_ins ndsP_new,hnd]
   have hmp:(ABlk.mp (.int .i64) (insM (plG (ndsP s.f proc i)) (.i .i64 i) (intV (((ndsP s.f proc i).length:Nat):Int))) [])=.mp (.int .i64) (plG (ndsP s.f proc (i+1))) []:=by rw [plG_ins ndsP_new,hnd]
   conv=>whnf
   refine Chk.mk ⟨rfl,rfl,rfl,allLt_ok ⟨trivial,rfl⟩⟩ ?_
   conv=>whnf
   refine Chk.mk ⟨rfl,rfl,rfl,rfl,(by show ((ndsP s.f proc i).length+1)*8≤140737488355328;omega),(by show (ndsP s.f proc i).length+1≤9223372036854775807;omega)⟩ ?_
   conv=>whnf
   refine hle _ _ (Le.cutEnv 4 rfl rfl ⟨rfl,fun κ a h=>plG_cl (N:=ndsP s.f proc (i+1)) ((congrFun hins κ).symm.trans h),rfl,catI_cl (fun _ _=>rfl) (oneI_cl rfl),trivial⟩ ?_ ?_) (ih (i+1) (by omega) (by omega))
   ·exact⟨AV.le_refl _,AV.le_refl _,AV.le_refl _,AV.le_refl _,AV.le_refl _,AV.le_of_eq (congrArg intV hw1),trivial⟩
   ·exact⟨ABlk.le_refl _,ABlk.le_of_eq hmp,ABlk.le_of_eq hbox,hnd▸intR_one rfl rfl,trivial⟩
  ·have hp:(s.f i).pr≠proc:=hp
   have hnd:ndsP s.f proc (i+1)=ndsP s.f proc i:=by simp only [ndsP];rw [if_neg hp]
   conv=>whnf
   refine hle _ _ (Le.cutEnv 4 rfl rfl ⟨rfl,fun _ _ h=>plG_cl h,rfl,fun _ _=>rfl,trivial⟩ ?_ ?_) (ih (i+1) (by omega) (by omega))
   ·exact⟨AV.le_refl _,AV.le_refl _,AV.le_refl _,AV.le_refl _,AV.le_refl _,AV.le_of_eq (congrArg intV hw1),trivial⟩
   ·exact hnd▸lesK.refl _
 ·obtain rfl:i=s.n:=by omega
  have h':¬ ((s.n:Nat):Int)<(s.n:Int):=by omega
  have hN:=nds_ok (proc:=proc) hn hsh
  conv=>whnf
  refine two_false (decide_eq_false h') ?_
  conv=>whnf
  refine⟨s,ndsP s.f proc s.n,[],rfl,rfl,hN,fun ok=>?_,fun bad=>?_⟩
  ·have hok:PGok (pgN s.f (ndsP s.f proc s.n)):=⟨pgN_rng ok.in_,fun i hi=>ok.live i hi⟩
   conv=>whnf
   refine⟨s,ndsP s.f proc s.n,[],rfl,rfl,hN,ok,fun P hP=>?_⟩
   have hPr:∀ i,i<(ndsP s.f proc s.n).length→∀ m,P i m=true→m<(ndsP s.f proc s.n).length:=fun i hi m hm=>((hP.iff i hi m).1 hm).rng hok hi
   have hl:=hN.len
   conv=>whnf
   refine⟨s,ndsP s.f proc s.n,P,[],rfl,rfl,by omega,hPr,?_⟩
   conv=>whnf
   exact hr _ _ (.tup [postV ⟨ndsP s.f proc s.n,pgN s.f (ndsP s.f proc s.n),P,bestN P⟩,intV 0]) [] _ (Wk1.fzAll (fz_post s ⟨ndsP s.f proc s.n,pgN s.f (ndsP s.f proc s.n),P,bestN P⟩)) rfl rfl trivial
    (hk1 ⟨ndsP s.f proc s.n,pgN s.f (ndsP s.f proc s.n),P,bestN P⟩ ⟨⟨rfl,ndsP_nodup _ _ _,fun y hy=>by obtain⟨x,h1,_⟩:=ndsP_mem.1 hy;omega,hok,hP,bestN_ok hP hok (by show (ndsP s.f proc s.n).length≤4096;omega)⟩,rfl,rfl,⟨by omega,by omega,ok⟩⟩)
  ·conv=>whnf
   exact hr _ _ (.tup [.p .nilp,intV 1]) [] _ (Wk1.refl _ _ _) rfl rfl trivial (hk0 fun h=>bad h.ok)
end Go.Proofs.YtcmepkfefoidcaaGreatDoor
