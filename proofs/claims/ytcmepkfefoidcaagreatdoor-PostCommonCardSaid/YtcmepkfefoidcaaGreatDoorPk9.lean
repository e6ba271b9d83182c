/-
  On the way to what follows: part 9 of 0.
-/
import Derived.Test.YtcmepkfefoidcaaGreatDoorPk7
import Derived.Test.YtcmepkfefoidcaaGreatDoorPk8
set_option linter.unusedVariables false
set_option linter.unusedSimpArgs false
namespace Go.Proofs.YtcmepkfefoidcaaGreatDoor
open Go.AE Go.Ru Go.Bi
set_option maxRecDepth 100000
set_option maxHeartbeats 400000
structure PMk (M:PM):Prop where
 ok:PMok M
 n:M.N.length<4096
theorem plP_some {N:List Int} {y:Int} {i:Nat} (h:posL y N=some i):plP N (.i .i64 y)=some (.int .i64 ((i:Nat):Int)):=by simp [plP,h]
theorem plP_none {N:List Int} {y:Int} (h:posL y N=none):plP N (.i .i64 y)=none:=by simp [plP,h]
def gPo:AG:=gput 46 cCloneW (gput 51 cHas g0)
theorem gPo_ok:GOk Tryz.prog gPo:=gput_ok cloneW_ok (gput_ok has_ok g0_ok)
def cNodes:AC:=fun args K k=>∃ M,args=[postV M]∧PMk M∧k (.ret (intsV M.N)) K
theorem nodes_ok:COk 15 cNodes:=by
 rintro args K k ⟨M,rfl,hM,hk⟩
 refine frameZ (K0:=[]) (X:=K) gPo_ok 19 rfl trivial fun Q hr=>?_
 have hn:=hM.n
 conv=>whnf
 refine⟨M.N,rfl,by omega,?_⟩
 conv=>whnf
 exact hr _ _ (intsV M.N) [] _ (Wk1.fzL rfl rfl) rfl rfl trivial hk
def cPasses:AC:=fun args K k=>∃ M a b v,args=[postV M,intV a,intV b]∧PMk M∧passM M a b=v∧k (.ret (.p (.bool v))) K
theorem passes_ok:COk 25 cPasses:=by
 rintro args K k ⟨M,a,b,v,rfl,hM,rfl,hk⟩
 refine frame0P gPo_ok 19 rfl fun Q hr=>?_
 have hn:=hM.n
 conv=>whnf
 refine two_eq (fun ha=>?_) (fun ha=>?_)
 ·have ha:a=-1:=ha
  rw [show passM M a b=(b==-1) by unfold passM;rw [if_pos ha]] at hk
  conv=>whnf
  exact hr _ _ rfl hk
 have ha:a≠-1:=ha
 cases hpa:posL a M.N with
 | none =>
  rw [show passM M a b=false by unfold passM;rw [if_neg ha,hpa]] at hk
  conv=>whnf
  refine MGet.pv_none (plP_none hpa) ?_
  conv=>whnf
  exact hr _ _ rfl hk
 | some i =>
  have hi:=posL_some hpa
  have hi0:(0:Int)≤(i:Int):=by omega
  have hil:(i:Int)<(M.N.length:Int):=by omega
  conv=>whnf
  refine MGet.pv_some (plP_some hpa) ?_
  conv=>whnf
  refine two_eq (fun hb=>?_) (fun hb=>?_)
  ·have hb:b=-1:=hb
   rw [show passM M a b=true by unfold passM;rw [if_neg ha,hpa];simp only [if_pos hb]] at hk
   conv=>whnf
   exact hr _ _ rfl hk
  have hb:b≠-1:=hb
  cases hpb:posL b M.N with
  | none =>
   rw [show passM M a b=false by unfold passM;rw [if_neg ha,hpa];simp only [if_neg hb,hpb]] at hk
   conv=>whnf
   refine MGet.pv_none (plP_none hpb) ?_
   conv=>whnf
   exact hr _ _ rfl hk
  | some j =>
   have hj:=posL_some hpb
   rw [show passM M a b=M.P i j by unfold passM;rw [if_neg ha,hpa];simp only [if_neg hb,hpb]] at hk
   conv=>whnf
   refine MGet.pv_some (plP_some hpb) ?_
   conv=>whnf
   refine Chk.mk ⟨hi0,hil,rfl⟩ ?_
   conv=>whnf
   refine⟨M.P i,j,rfl,by omega,?_⟩
   conv=>whnf
   exact hr _ _ rfl hk
def cPoNext:AC:=fun args K k=>∃ M a v,args=[postV M,intV a]∧PMk M∧nextM M a=v∧k (.ret (intV v)) K
theorem poNext_ok:COk 19 cPoNext:=by
 rintro args K k ⟨M,a,v,rfl,hM,rfl,hk⟩
 refine frame0P gPo_ok 19 rfl fun Q hr=>?_
 have hn:=hM.n
 cases hpa:posL a M.N with
 | none =>
  rw [show nextM M a=-2 by unfold nextM;rw [hpa]] at hk
  conv=>whnf
  refine MGet.pv_none (plP_none hpa) ?_
  conv=>whnf
  exact hr _ _ rfl hk
 | some i =>
  have hi:=posL_some hpa
  have hi0:(0:Int)≤(i:Int):=by omega
  have hil:(i:Int)<(M.N.length:Int):=by omega
  cases hnx:M.nx i with
  | none =>
   have hv:nxI (M.nx i)=-1:=by rw [hnx];rfl
   rw [show nextM M a=-1 by unfold nextM;rw [hpa];simp only [hnx]] at hk
   conv=>whnf
   refine MGet.pv_some (plP_some hpa) ?_
   conv=>whnf
   refine Chk.mk ⟨hi0,hil,rfl⟩ ?_
   conv=>whnf
   refine two_eq (fun _=>?_) (fun h=>absurd hv h)
   conv=>whnf
   exact hr _ _ rfl hk
  | some j =>
   obtain⟨hjn,_⟩:=hM.ok.nxt.lt hM.ok.pass hM.ok.ok (i:=i) (by have:=hM.ok.len;omega) hnx
   have hjl:j<M.N.length:=by have:=hM.ok.len;omega
   have hv:nxI (M.nx i)=(j:Int):=by rw [hnx];rfl
   have hv0:0≤nxI (M.nx i):=by rw [hv];omega
   have hv1:nxI (M.nx i)<(M.N.length:Int):=by rw [hv];omega
   have hvt:(nxI (M.nx i)).toNat=j:=by rw [hv];rfl
   rw [show nextM M a=M.N.getD (nxI (M.nx i)).toNat 0 by unfold nextM;rw [hpa,hvt];simp only [hnx]] at hk
   conv=>whnf
   refine MGet.pv_some (plP_some hpa) ?_
   conv=>whnf
   refine Chk.mk ⟨hi0,hil,rfl⟩ ?_
   conv=>whnf
   refine two_eq (fun h=>absurd (hv.symm.trans h) (by omega)) (fun _=>?_)
   conv=>whnf
   refine Chk.mk ⟨hi0,hil,rfl⟩ ?_
   conv=>whnf
   refine Chk.mk ⟨hv0,hv1,rfl⟩ ?_
   conv=>whnf
   exact hr _ _ rfl hk
structure ChC where
 o:Option Nat
 m:Nat
 l:List Int
def chRest (M:PM) (o:Option Nat) (m:Nat):List Int:=match o with
 | none=>[]
 | some i=>(chainF M.nx m i).map fun k=>M.N.getD k 0
structure ChI (M:PM) (a:Int) (c:ChC):Prop where
 e:chainM M a=c.l++chRest M c.o c.m
 n:∀ i,c.o=some i→i<M.g.n∧cntP M.g M.P i<c.m
 l:c.l.length+c.m≤M.g.n+1
def cChain:AC:=fun args K k=>∃ M a,args=[postV M,intV a]∧PMk M∧k (.ret (intsV (chainM M a))) K
theorem chain_ok:COk 16 cChain:=by
 rintro args K k ⟨M,a,rfl,hM,hk⟩
 refine frameZ (K0:=[]) (X:=K) gPo_ok 19 rfl trivial fun Q hr=>?_
 have hn:=hM.n
 have hgl:=hM.ok.len
 cases hpa:posL a M.N with
 | none =>
  rw [show chainM M a=[] by unfold chainM;rw [hpa]] at hk
  conv=>whnf
  refine MGet.pv_none (plP_none hpa) ?_
  conv=>whnf
  refine loop_up (ι:=Unit) [5,7] (fun _=>[]) (fun _=>[]) (fun _=>True) (fun _=>0) () trivial trivial trivial ?_
  rintro Y hle _ _ ih
  conv=>whnf
  exact hr _ _ (intsV []) [] _ (Wk1.le (AV.nils_le _ _) (lesK.refl _)) rfl rfl trivial hk
 | some i0 =>
  have hi0:=posL_some hpa
  conv=>whnf
  refine MGet.pv_some (plP_some hpa) ?_
  conv=>whnf
  refine loop_nil (ι:=ChC) 3 1 (fun i=>[intV (([]:List Int).getD i 0)]) (fun c=>⟨[(0,postV M),(5,.slr 0 0 0 c.l.length),(6,intV (nxI c.o)),(7,.p (.bool true))],[intR 0 c.l]⟩) (ChI M a) (fun c=>match c.o with|none=>0|some _=>c.m) ⟨some i0,M.g.n+1,[]⟩ []
   rfl ⟨.inl (AV.le_refl _),.inr ⟨rfl,rfl⟩,.inl (AV.le_refl _),.inl (AV.le_refl _),trivial⟩ trivial rfl ⟨(by unfold chainM;rw [hpa];rfl),(fun i e=>by injection e with e;subst e;exact⟨by omega,PMok.cnt _⟩),(by simp)⟩ ?_
  rintro Y hle ⟨o,m,l⟩ ⟨he,hc,hl⟩ ih
  cases o with
  | none =>
   have he:chainM M a=l:=by rw [he];simp [chRest]
   rw [he] at hk
   conv=>whnf
   exact hr _ _ (intsV l) [] _ (Wk1.fzL rfl rfl) rfl rfl trivial hk
  | some i =>
   obtain⟨hin,hcm⟩:=hc i rfl
   replace hl:l.length+m≤M.g.n+1:=hl
   replace hcm:cntP M.g M.P i<m:=hcm
   have hi0:(0:Int)≤(i:Int):=by omega
   have hil:(i:Int)<(M.N.length:Int):=by omega
   have hne:((i:Nat):Int)≠-1:=by omega
   obtain⟨m,rfl⟩:∃ m',m=m'+1:=⟨m - 1,by omega⟩
   conv=>whnf
   refine Chk.mk ⟨hi0,hil,rfl⟩ ?_
   conv=>whnf
   refine Chk.mk ⟨rfl,rfl,rfl,allLt_ok ⟨trivial,rfl⟩⟩ ?_
   conv=>whnf
   refine Chk.mk ⟨rfl,rfl,rfl,rfl,(by show (l.length+1)*8≤140737488355328;omega),(by show l.length+1≤9223372036854775807;omega)⟩ ?_
   conv=>whnf
   refine Chk.mk ⟨hi0,hil,rfl⟩ ?_
   conv=>whnf
   refine hle _ _ (Le.cutEnv 1 rfl rfl ⟨catI_cl (fun _ _=>rfl) (oneI_cl rfl),trivial⟩ ?_ ?_) (ih ⟨M.nx i,m,l++[M.N.getD i 0]⟩ ?_ ⟨?_,?_,?_⟩)
   ·exact⟨AV.le_refl _,AV.le_of_eq (show AV.slr 0 0 0 (l.length+1)=.slr 0 0 0 (l++[M.N.getD i 0]).length by simp),AV.le_refl _,AV.le_refl _,trivial⟩
   ·exact⟨intR_one rfl rfl,trivial⟩
   ·show (match M.nx i with|none=>0|some _=>m)<m+1
    split<;>omega
   ·rw [he]
    cases hnx:M.nx i with
    | none=>simp [chRest,chainF,hnx]
    | some j=>simp [chRest,chainF,hnx]
   ·intro j hj
    obtain⟨h1,h2⟩:=hM.ok.nxt.lt hM.ok.pass hM.ok.ok hin hj
    exact⟨h1,by show cntP M.g M.P j<m;omega⟩
   ·show (l++[M.N.getD i 0]).length+m≤M.g.n+1
    rw [List.length_append,List.length_singleton];omega
theorem chain_len {M:PM} (hM:PMk M) (a:Int):(chainM M a).length≤4097:=by
 have hn:=hM.n
 have hgl:=hM.ok.len
 have key:∀ m i,(chainF M.nx m i).length≤m:=by
  intro m
  induction m with
  | zero=>intro i;simp [chainF]
  | succ m ih =>
   intro i
   simp only [chainF,List.length_cons]
   cases M.nx i with
   | none=>simp
   | some k=>simp only;have:=ih k;omega
 unfold chainM
 cases posL a M.N with
 | none=>simp
 | some i=>simp only [List.length_map];have:=key (M.g.n+1) i;omega
def cContI:AC:=fun args K k=>∃ l n b,args=[intsV l,intV n]∧List.length l<1000000∧decide (n∈l)=b∧k (.ret (.p (.bool b))) K
theorem contI_ok:COk 55 cContI:=by
 rintro args K k ⟨l,n,b,rfl,hl,rfl,hk⟩
 refine frame0P g0_ok 19 rfl fun Q hr=>?_
 conv=>whnf
 refine loop_up (ι:=Nat) [0,1,7] (fun i=>[(8,intV i)]) (fun _=>[]) (fun i=>i≤l.length∧n ∉ l.take i) (fun i=>l.length - i) 0 ⟨AV.le_refl _,trivial⟩ trivial ⟨Nat.zero_le _,by simp⟩ ?_
 rintro Y hle i ⟨hi,hni⟩ ih
 by_cases h:i<l.length
 ·have hw1:=wzz (i:=i) (by omega)
  have h':(i:Int)<(l.length:Int):=by omega
  have e1:l.getD i 0=l[i]:=by simp [h]
  have htk:l.take (i+1)=l.take i++[l.getD i 0]:=by rw [List.take_add_one,e1,List.getElem?_eq_getElem h];rfl
  conv=>whnf
  refine two_true (decide_eq_true h') ?_
  conv=>whnf
  refine Chk.mk ⟨Int.natCast_nonneg i,h',rfl⟩ ?_
  conv=>whnf
  refine two_eq (fun h2=>?_) (fun h2=>?_)
  ·have h2:n=l.getD i 0:=h2
   have hm:n∈l:=by rw [h2,e1];exact List.getElem_mem h
   rw [decide_eq_true hm] at hk
   conv=>whnf
   exact hr _ _ rfl hk
  ·have h2:n≠l.getD i 0:=h2
   conv=>whnf
   refine hle _ _ (Le.env ?_ ?_) (ih (i+1) (by omega) ⟨by omega,by rw [htk];simp only [List.mem_append,List.mem_cons,List.not_mem_nil,or_false,not_or];exact⟨hni,h2⟩⟩)
   ·skip
    repeat' (first|exact trivial|((conv=>whnf);first|exact trivial|refine⟨AV.le_refl _,?_⟩|refine⟨ABlk.le_refl _,?_⟩|(refine⟨AV.le_of_eq ?_,?_⟩;focus ((first|exact congrArg intV hw1|fail);done))|(refine⟨ABlk.le_of_eq ?_,?_⟩;focus ((first|exact congrArg intV hw1|fail);done))|fail)|fail)
   ·skip
    repeat' (first|exact trivial|((conv=>whnf);first|exact trivial|refine⟨AV.le_refl _,?_⟩|refine⟨ABlk.le_refl _,?_⟩|fail)|fail)
 ·obtain rfl:i=l.length:=by omega
  have h':¬ ((l.length:Nat):Int)<(l.length:Int):=by omega
  rw [List.take_length] at hni
  rw [decide_eq_false hni] at hk
  conv=>whnf
  refine two_false (decide_eq_false h') ?_
  conv=>whnf
  exact hr _ _ rfl hk
def gPc:AG:=gput 16 cChain (gput 55 cContI g0)
theorem gPc_ok:GOk Tryz.prog gPc:=gput_ok chain_ok (gput_ok contI_ok g0_ok)
def cPoDepth:AC:=fun args K k=>∃ M a,args=[postV M,intV a]∧PMk M∧k (.ret (intV ((chainM M a).length:Nat))) K
theorem poDepth_ok:COk 17 cPoDepth:=by
 rintro args K k ⟨M,a,rfl,hM,hk⟩
 refine frame0P gPc_ok 19 rfl fun Q hr=>?_
 conv=>whnf
 refine⟨M,a,rfl,hM,?_⟩
 conv=>whnf
 exact hr _ _ rfl hk
def cPoCommon:AC:=fun args K k=>∃ M a b v,args=[postV M,intV a,intV b]∧PMk M∧commonM M a b=v∧k (.ret (intV v)) K
theorem poCommon_ok:COk 28 cPoCommon:=by
 rintro args K k ⟨M,a,b,v,rfl,hM,rfl,hk⟩
 refine frame0P gPc_ok 19 rfl fun Q hr=>?_
 have hla:=chain_len hM a
 have hlb:=chain_len hM b
 unfold commonM at hk
 conv=>whnf
 refine⟨M,b,rfl,hM,?_⟩
 conv=>whnf
 refine⟨M,a,rfl,hM,?_⟩
 obtain⟨la,ea⟩:∃ l,chainM M a=l:=⟨_,rfl⟩
 obtain⟨lb,eb⟩:∃ l,chainM M b=l:=⟨_,rfl⟩
 rw [ea] at hla
 rw [eb] at hlb
 rw [ea,eb] at hk
 rw [ea,eb]
 conv=>whnf
 refine loop_up (ι:=Nat) [7,15,16] (fun i=>[(17,intV i)]) (fun _=>[]) (fun i=>i≤la.length∧commonL lb (la.drop i)=commonL lb la) (fun i=>la.length - i) 0 ⟨AV.le_refl _,trivial⟩ trivial ⟨Nat.zero_le _,rfl⟩ ?_
 rintro Y hle i ⟨hi,he⟩ ih
 by_cases h:i<la.length
 ·have hw1:=wzz (i:=i) (by omega)
  have h':(i:Int)<(la.length:Int):=by omega
  have e1:la[i]=la.getD i 0:=by simp [h]
  rw [List.drop_eq_getElem_cons h,e1] at he
  simp only [commonL] at he
  conv=>whnf
  refine two_true (decide_eq_true h') ?_
  conv=>whnf
  refine Chk.mk ⟨Int.natCast_nonneg i,h',rfl⟩ ?_
  conv=>whnf
  refine⟨lb,la.getD i 0,decide (la.getD i 0∈lb),rfl,by omega,rfl,?_⟩
  conv=>whnf
  refine two_dec (fun h2=>?_) (fun h2=>?_)
  ·have h2:la.getD i 0∈lb:=h2
   rw [if_pos h2] at he
   rw [← he] at hk
   conv=>whnf
   exact hr _ _ rfl hk
  ·have h2:la.getD i 0 ∉ lb:=h2
   rw [if_neg h2] at he
   conv=>whnf
   refine hle _ _ (Le.env ?_ ?_) (ih (i+1) (by omega) ⟨by omega,he⟩)
   ·skip
    repeat' (first|exact trivial|((conv=>whnf);first|exact trivial|refine⟨AV.le_refl _,?_⟩|refine⟨ABlk.le_refl _,?_⟩|(refine⟨AV.le_of_eq ?_,?_⟩;focus ((first|exact congrArg intV hw1|fail);done))|(refine⟨ABlk.le_of_eq ?_,?_⟩;focus ((first|exact congrArg intV hw1|fail);done))|fail)|fail)
   ·skip
    repeat' (first|exact trivial|((conv=>whnf);first|exact trivial|refine⟨AV.le_refl _,?_⟩|refine⟨ABlk.le_refl _,?_⟩|fail)|fail)
 ·obtain rfl:i=la.length:=by omega
  have h':¬ ((la.length:Nat):Int)<(la.length:Int):=by omega
  rw [List.drop_length] at he
  rw [← he] at hk
  conv=>whnf
  refine two_false (decide_eq_false h') ?_
  conv=>whnf
  exact hr _ _ rfl hk
end Go.Proofs.YtcmepkfefoidcaaGreatDoor
namespace Go.Proofs.YtcmepkfefoidcaaGreatDoor
open Go.AE Go.Ru
set_option maxRecDepth 100000
set_option maxHeartbeats 400000
def cAmong11:AC:=fun args K k=>∃ l n b,args=[intsV l,intV n]∧List.length l<1000000∧decide (n∈l)=b∧k (.ret (.p (.bool b))) K
theorem among11_ok:COk 20 cAmong11:=by
 rintro args K k ⟨l,n,b,rfl,hl,rfl,hk⟩
 refine frame0P g0_ok 19 rfl fun Q hr=>?_
 conv=>whnf
 refine loop_up (ι:=Nat) [0,1] (fun i=>[(5,intV i)]) (fun _=>[]) (fun i=>i≤l.length∧n ∉ l.take i) (fun i=>l.length - i) 0 ⟨AV.le_refl _,trivial⟩ trivial ⟨Nat.zero_le _,by simp⟩ ?_
 rintro Y hle i ⟨hi,hni⟩ ih
 conv=>whnf
 refine two_dec (fun h=>?_) (fun h=>?_)
 ·have h:i<l.length:=by have h:(i:Int)<(l.length:Int):=h;omega
  have hw1:=wzz (i:=i) (by omega)
  have hil:(i:Int)<(l.length:Int):=by omega
  have e1:l.getD i 0=l[i]:=by simp [h]
  have htk:l.take (i+1)=l.take i++[l.getD i 0]:=by rw [List.take_add_one,e1,List.getElem?_eq_getElem h];rfl
  conv=>whnf
  refine Chk.mk ⟨Int.natCast_nonneg i,hil,rfl⟩ ?_
  conv=>whnf
  refine two_eq (fun h2=>?_) (fun h2=>?_)
  ·have h2:l.getD i 0=n:=h2
   have hm:n∈l:=by rw [← h2,e1];exact List.getElem_mem h
   rw [decide_eq_true hm] at hk
   conv=>whnf
   exact hr _ _ rfl hk
  ·have h2:l.getD i 0≠n:=h2
   conv=>whnf
   refine hle _ _ (Le.env ?_ ?_) (ih (i+1) (by omega) ⟨by omega,by rw [htk];simp only [List.mem_append,List.mem_cons,List.not_mem_nil,or_false,not_or];exact⟨hni,fun e=>h2 e.symm⟩⟩)
   ·skip
    repeat' (first|exact trivial|((conv=>whnf);first|exact trivial|refine⟨AV.le_refl _,?_⟩|refine⟨ABlk.le_refl _,?_⟩|(refine⟨AV.le_of_eq ?_,?_⟩;focus ((first|exact congrArg intV hw1|fail);done))|(refine⟨ABlk.le_of_eq ?_,?_⟩;focus ((first|exact congrArg intV hw1|fail);done))|fail)|fail)
   ·skip
    repeat' (first|exact trivial|((conv=>whnf);first|exact trivial|refine⟨AV.le_refl _,?_⟩|refine⟨ABlk.le_refl _,?_⟩|fail)|fail)
 ·obtain rfl:i=l.length:=by have h:¬ (i:Int)<(l.length:Int):=h;omega
  rw [List.take_length] at hni
  rw [decide_eq_false hni] at hk
  conv=>whnf
  exact hr _ _ rfl hk
structure SmG (s:BSt):Prop where
 n:s.n≤30
 ps:s.ps.length≤30
 nx:∀ x,x<s.n→(s.f x).nx.length≤10
def cSmG:AC:=fun args K k=>∃ s,args=[graphW s]∧(SmG s→k (.ret (.p (.bool true))) K)∧k (.ret (.p (.bool false))) K
theorem small11_ok:COk 13 cSmG:=by
 rintro args K k ⟨s,rfl,hk1,hk0⟩
 refine frame0P g0_ok 19 rfl fun Q hr=>?_
 conv=>whnf
 refine two_dec (fun h=>?_) (fun h=>?_)
 ·conv=>whnf
  exact hr _ _ rfl hk0
 have h:s.n≤30:=by have h:¬ (s.n:Int)>30:=h;omega
 conv=>whnf
 refine two_dec (fun h2=>?_) (fun h2=>?_)
 ·conv=>whnf
  exact hr _ _ rfl hk0
 have h2:s.ps.length≤30:=by have h2:¬ (s.ps.length:Int)>30:=h2;omega
 conv=>whnf
 refine loop_up (ι:=Nat) [1] (fun i=>[(3,intV i)]) (fun _=>[]) (fun i=>i≤s.n∧∀ x,x<i→(s.f x).nx.length≤10) (fun i=>s.n - i) 0 ⟨AV.le_refl _,trivial⟩ trivial ⟨Nat.zero_le _,fun x hx=>by omega⟩ ?_
 rintro Y hle i ⟨hi,he⟩ ih
 conv=>whnf
 refine two_dec (fun h3=>?_) (fun h3=>?_)
 ·have h3:i<s.n:=by have h3:(i:Int)<(s.n:Int):=h3;omega
  have hw1:=wzz (i:=i) (by omega)
  have h3':(i:Int)<(s.n:Int):=by omega
  conv=>whnf
  refine Chk.mk ⟨Int.natCast_nonneg i,h3',rfl⟩ ?_
  conv=>whnf
  refine two_dec (fun h4=>?_) (fun h4=>?_)
  ·conv=>whnf
   exact hr _ _ rfl hk0
  have h4:(s.f i).nx.length≤10:=by have h4:¬ ((s.f i).nx.length:Int)>10:=h4;omega
  conv=>whnf
  refine hle _ _ (Le.env ?_ ?_) (ih (i+1) (by omega) ⟨by omega,fun x hx=>by
   by_cases e:x=i
   ·rw [e];exact h4
   ·exact he x (by omega)⟩)
  ·skip
   repeat' (first|exact trivial|((conv=>whnf);first|exact trivial|refine⟨AV.le_refl _,?_⟩|refine⟨ABlk.le_refl _,?_⟩|(refine⟨AV.le_of_eq ?_,?_⟩;focus ((first|exact congrArg intV hw1|fail);done))|(refine⟨ABlk.le_of_eq ?_,?_⟩;focus ((first|exact congrArg intV hw1|fail);done))|fail)|fail)
  ·skip
   repeat' (first|exact trivial|((conv=>whnf);first|exact trivial|refine⟨AV.le_refl _,?_⟩|refine⟨ABlk.le_refl _,?_⟩|fail)|fail)
 ·obtain rfl:i=s.n:=by have h3:¬ (i:Int)<(s.n:Int):=h3;omega
  have hk:=hk1 ⟨h,h2,he⟩
  conv=>whnf
  exact hr _ _ rfl hk
def pr11:List Nd:=[⟨5,1,14,[120],[]⟩,⟨18,0,32,[108,111],[]⟩,⟨9,0,25,[120],[1]⟩,⟨22,0,39,[120],[]⟩,⟨20,1,43,[],[]⟩,⟨27,0,41,[60],[3,4]⟩,⟨18,0,51,[108,111],[]⟩,⟨20,1,54,[],[]⟩,⟨10,0,47,[],[6,7]⟩,⟨6,0,45,[],[8]⟩,⟨6,0,36,[],[]⟩,⟨11,0,36,[],[5,9,10]⟩,⟨18,0,63,[108,111],[]⟩,⟨20,2,66,[],[]⟩,⟨10,0,59,[],[12,13]⟩,⟨6,0,12,[],[2,11,14]⟩,⟨3,0,0,[109,97,105,110],[0,15]⟩,⟨1,0,0,[],[16]⟩]
def gr11:List GN:=[⟨1,16,0,[3],-1⟩,⟨2,16,0,[],-1⟩,⟨3,16,0,[],-1⟩,⟨4,2,0,[5],-1⟩,⟨4,8,0,[6],-1⟩,⟨4,11,0,[4,6],-1⟩,⟨4,14,0,[1],-1⟩]
def bs11:BSt:=⟨7,fun i=>gr11.getD i default,fun _=>none,[16],17⟩
def tx11:Bs:=[112,114,111,99,32,109,97,105,110,40,41,32,123,32,118,97,114,32,120,32,105,110,116,59,32,120,32,61,32,105,110,32,108,111,59,32,105,102,32,120,32,60,32,49,32,123,32,111,117,116,32,108,111,32,49,59,32,125,32,111,117,116,32,108,111,32,50,59,32,125]
theorem pr11_eq:proS tx11=.ok pr11 17 2:=by kernel_rfl
theorem ck11_eq:checkTree pr11 17=(0,0):=by kernel_rfl
theorem pr11_tame:Tame pr11:=small_tame (m:=400) (by decide) (by kernel_rfl)
theorem bs11_n:(buildS pr11 17).n=7:=by kernel_rfl
theorem bs11_ps:(buildS pr11 17).ps=[16]:=by kernel_rfl
theorem bs11_all:(List.range 7).all (fun i=>gnB ((buildS pr11 17).f i) (gr11.getD i default))=true:=by kernel_rfl
theorem bs11_f:∀ i,i<7→(buildS pr11 17).f i=gr11.getD i default:=fun i hi=>by
 have:=List.all_eq_true.1 bs11_all i (List.mem_range.2 hi)
 exact gnB_eq this
theorem short11:∀ x,x<7→(bs11.f x).nx.length<1000:=fun x hx=>by
 rcases x with _|_|_|_|_|_|_|x<;>first|decide|omega
theorem nds11:ndsP bs11.f 0 bs11.n=[0,1,2,3,4,5,6]:=by kernel_rfl
def pg11:PG:=pgN bs11.f [0,1,2,3,4,5,6]
theorem way11_1:Go.Ru.Way pg11 1 [1]:=.stop (by kernel_rfl)
theorem way11_2:Go.Ru.Way pg11 2 [2]:=.stop (by kernel_rfl)
theorem nx11_6:pg11.nx 6=[1]:=by kernel_rfl
theorem nx11_5:pg11.nx 5=[4,6]:=by kernel_rfl
theorem nx11_4:pg11.nx 4=[6]:=by kernel_rfl
theorem nx11_3:pg11.nx 3=[5]:=by kernel_rfl
theorem nx11_0:pg11.nx 0=[3]:=by kernel_rfl
theorem way11_6:Go.Ru.Way pg11 6 [6,1]:=.go (by rw [nx11_6];simp) way11_1
theorem way11_5:Go.Ru.Way pg11 5 [5,6,1]:=.go (by rw [nx11_5];simp) way11_6
theorem way11_4:Go.Ru.Way pg11 4 [4,6,1]:=.go (by rw [nx11_4];simp) way11_6
theorem way11_3:Go.Ru.Way pg11 3 [3,5,6,1]:=.go (by rw [nx11_3];simp) way11_5
theorem way11_0:Go.Ru.Way pg11 0 [0,3,5,6,1]:=.go (by rw [nx11_0];simp) way11_3
theorem live11:∀ i,i<7→∃ l,Go.Ru.Way pg11 i l:=fun i hi=>by
 rcases i with _|_|_|_|_|_|_|i
 ·exact⟨_,way11_0⟩
 ·exact⟨_,way11_1⟩
 ·exact⟨_,way11_2⟩
 ·exact⟨_,way11_3⟩
 ·exact⟨_,way11_4⟩
 ·exact⟨_,way11_5⟩
 ·exact⟨_,way11_6⟩
 ·omega
def in11 (i:Nat):Bool:=(wayN (bs11.f (([0,1,2,3,4,5,6]:List Int).getD i 0).toNat)).all fun y=>(posL y [0,1,2,3,4,5,6]).isSome
theorem good11:GoodP bs11 0 where
 lo:=Int.le_refl _
 hi:=by decide
 ok:=by
  rw [nds11]
  refine⟨fun i hi=>?_,fun i hi=>live11 i hi⟩
  have h:(List.range 7).all in11=true:=by kernel_rfl
  have:=List.all_eq_true.1 h i (List.mem_range.2 hi)
  exact List.all_eq_true.1 this
theorem near_eq {M:PM} (h:PMok M) {i k:Nat} (hi:i<M.g.n) (hk:PD M.g i k) (hne:k≠i) (hm:∀ m,PD M.g i m→m≠i→PD M.g k m):M.nx i=some k:=by
 cases e:M.nx i with
 | none=>exact absurd ((h.nxt.near i hi).none e k hk) hne
 | some j =>
  obtain⟨h1,h2,h3⟩:=(h.nxt.near i hi).some j e
  exact congrArg some (PD.anti (h.ok.live j (h2.rng h.ok hi)) (h3 k hk hne) (hm j h2 h1))
structure N11 (M:PM):Prop where
 k:PMk M
 in_:nextM M 3=5
 br:nextM M 5=6
 a:nextM M 4=6
 b:nextM M 6=1
 ex:nextM M 1=-1
theorem n11 {M:PM} (h:PMof bs11 0 M):N11 M:=by
 have hN:M.N=[0,1,2,3,4,5,6]:=h.N.trans nds11
 have hg:M.g=pg11:=by rw [h.g,hN];rfl
 have ok:=h.ok
 have hn:M.g.n=7:=by rw [hg];rfl
 have e3:M.nx 3=some 5:=one_next ok (by omega) (by rw [hg];kernel_rfl) (fun k=>by rw [hg,nx11_3];simp) (by decide)
 have e4:M.nx 4=some 6:=one_next ok (by omega) (by rw [hg];kernel_rfl) (fun k=>by rw [hg,nx11_4];simp) (by decide)
 have e6:M.nx 6=some 1:=one_next ok (by omega) (by rw [hg];kernel_rfl) (fun k=>by rw [hg,nx11_6];simp) (by decide)
 have e1:M.nx 1=none:=end_next ok (by omega) (by rw [hg];kernel_rfl)
 have e5:M.nx 5=some 6:=by
  have h46:PD M.g 4 6:=(pd_fix _ _ _).2 (.inr ⟨by rw [hg];kernel_rfl,fun j hj=>by
   rw [hg,nx11_4] at hj;rw [List.mem_singleton.1 hj];exact .refl _ _⟩)
  have h61:PD M.g 6 1:=(pd_fix _ _ _).2 (.inr ⟨by rw [hg];kernel_rfl,fun j hj=>by
   rw [hg,nx11_6] at hj;rw [List.mem_singleton.1 hj];exact .refl _ _⟩)
  refine near_eq ok (by omega) ((pd_fix _ _ _).2 (.inr ⟨by rw [hg];kernel_rfl,fun j hj=>?_⟩)) (by decide) fun m hm hne=>?_
  ·rw [hg,nx11_5] at hj
   rcases List.mem_cons.1 hj with rfl|hj
   ·exact h46
   ·rw [List.mem_singleton.1 hj];exact .refl _ _
  ·have:=hm _ (hg▸way11_5)
   simp only [List.mem_cons,List.not_mem_nil,or_false] at this
   rcases this with rfl|rfl|rfl
   ·exact absurd rfl hne
   ·exact .refl _ _
   ·exact h61
 have hl:M.N.length<4096:=by rw [hN];decide
 refine⟨⟨ok,hl⟩,?_,?_,?_,?_,?_⟩
 ·unfold nextM
  rw [show posL 3 M.N=some 3 by rw [hN];kernel_rfl]
  simp only [e3,hN];rfl
 ·unfold nextM
  rw [show posL 5 M.N=some 5 by rw [hN];kernel_rfl]
  simp only [e5,hN];rfl
 ·unfold nextM
  rw [show posL 4 M.N=some 4 by rw [hN];kernel_rfl]
  simp only [e4,hN];rfl
 ·unfold nextM
  rw [show posL 6 M.N=some 6 by rw [hN];kernel_rfl]
  simp only [e6,hN];rfl
 ·unfold nextM
  rw [show posL 1 M.N=some 1 by rw [hN];kernel_rfl]
  simp only [e1]
def gS11:AG:=gput 42 (cTop proS) (gput 21 eBuildL (gput 22 (eEnds 2) (gput 14 cPoNew (gput 19 cPoNext g0))))
theorem gS11_ok:GOk Tryz.prog gS11:=gput_ok Program_ok (gput_ok eBuildL_ok (gput_ok exit_ok (gput_ok poNew_ok (gput_ok poNext_ok g0_ok))))
theorem shown11_ok:COk 12 cShown7:=by
 rintro args K k ⟨rfl,hk⟩
 refine frame0P gS11_ok 19 rfl fun Q hr=>?_
 conv=>whnf
 refine⟨tx11,rfl,by decide,?_⟩
 rw [pr11_eq]
 conv=>whnf
 refine⟨pr11,17,0,_,bs11,rfl,pr11_tame,ck11_eq,rfl,bs11_n,bs11_ps,fun i hi=>bs11_f i (by rw [bs11_n] at hi;exact hi),?_⟩
 conv=>whnf
 refine⟨bs11,0,rfl,by decide,short11,fun M hM=>?_,fun h=>absurd good11 h⟩
 have n:=n11 hM
 clear hM
 conv=>whnf
 repeat (refine Chk.mk ⟨by decide,by decide,rfl⟩ ?_;conv=>whnf)
 refine⟨M,3,5,rfl,n.k,n.in_,?_⟩
 conv=>whnf
 repeat (refine Chk.mk ⟨by decide,by decide,rfl⟩ ?_;conv=>whnf)
 refine⟨M,5,6,rfl,n.k,n.br,?_⟩
 conv=>whnf
 refine⟨M,4,6,rfl,n.k,n.a,?_⟩
 conv=>whnf
 refine⟨M,6,1,rfl,n.k,n.b,?_⟩
 conv=>whnf
 refine And.intro ?_ ?_
 ·(conv=>whnf)
 conv=>whnf
 refine⟨bs11,0,1,rfl,by decide,by kernel_rfl,?_⟩
 conv=>whnf
 refine⟨bs11,0,1,rfl,by decide,by kernel_rfl,?_⟩
 conv=>whnf
 refine⟨M,1,-1,rfl,n.k,n.ex,?_⟩
 conv=>whnf
 exact hr _ _ rfl hk
end Go.Proofs.YtcmepkfefoidcaaGreatDoor
namespace Go.Ru
def cntE (f:Nat→Bool):Nat→Nat
 | 0=>0
 | n+1=>cntE f n+(match f n with|true=>0|false=>1)
theorem cntE_le {f g:Nat→Bool} (h:∀ x,f x=true→g x=true):∀ n,cntE g n≤cntE f n:=by
 intro n
 induction n with
 | zero=>exact Nat.le_refl _
 | succ n ih =>
  simp only [cntE]
  cases hf:f n with
  | true=>rw [h n hf];simp only;omega
  | false=>cases g n<;>simp only<;>omega
def setE (f:Nat→Bool) (x y:Nat):Bool:=if y=x then true else f y
theorem cntE_set {f:Nat→Bool} {x:Nat} (hx:f x=false):∀ {n},x<n→cntE (setE f x) n+1≤cntE f n:=by
 intro n
 induction n with
 | zero=>intro h;omega
 | succ n ih =>
  intro h
  simp only [cntE]
  by_cases e:x=n
  ·subst e
   have:=cntE_le (f:=f) (g:=setE f x) (fun y hy=>by unfold setE;split<;>simp [hy]) x
   rw [hx,show setE f x x=true by simp [setE]]
   simp only;omega
  ·have:=ih (by omega)
   rw [show setE f x n=f n by simp [setE,show n≠x by omega]]
   omega
def FreeW (g:PG) (N:List Int) (w:Int) (i:Nat):Prop:=∃ l,Way g i l∧∀ x∈l,N.getD x 0≠w
structure NsOk (s:BSt) (N:List Int):Prop where
 nd:N.Nodup
 at_:∀ i,i<N.length→∃ x:Nat,N.getD i 0=(x:Int)∧x<s.n
 in_:∀ i,i<N.length→inP s.f N i
structure EInv (s:BSt) (N:List Int) (w:Int) (i:Nat) (f:Nat→Bool):Prop where
 st:N.getD i 0≠w→f (N.getD i 0).toNat=true
 ok:∀ y:Nat,f y=true→∃ j,j<N.length∧N.getD j 0=(y:Int)∧(y:Int)≠w∧(FreeW (pgN s.f N) N w j→FreeW (pgN s.f N) N w i)
theorem einv0 {s:BSt} {N:List Int} (h:NsOk s N) {w:Int} {i:Nat} (hi:i<N.length):EInv s N w i fun y=>if y=(N.getD i 0).toNat then (N.getD i 0 != w) else false:=by
 obtain⟨x,hx,_⟩:=h.at_ i hi
 refine⟨fun hw=>(if_pos rfl).trans (bne_iff_ne.2 hw),fun y hy=>?_⟩
 split at hy
 ·rename_i e
  rw [hx,Int.toNat_natCast] at e
  subst e
  have:=bne_iff_ne.1 hy
  exact⟨i,hi,hx,by rwa [hx] at this,id⟩
 ·cases hy
theorem way_to {s:BSt} {N:List Int} (h:NsOk s N) {j:Nat} (hj:j<N.length) {z:Int} (hz:z∈wayN (s.f (N.getD j 0).toNat)):∃ k,posL z N=some k∧k<N.length∧N.getD k 0=z∧k∈(pgN s.f N).nx j∧0≤z∧z<(s.n:Int):=by
 obtain⟨k,hk⟩:=Option.isSome_iff_exists.1 (h.in_ j hj z hz)
 obtain⟨h1,h2⟩:=posL_some hk
 obtain⟨x,hx,hxn⟩:=h.at_ k h1
 refine⟨k,hk,h1,h2,List.mem_map.2 ⟨z,hz,by rw [hk];rfl⟩,?_,?_⟩<;>omega
theorem EInv.set {s:BSt} {N:List Int} (hN:NsOk s N) {w:Int} {i:Nat} {f:Nat→Bool} (h:EInv s N w i f) {j:Nat} (hj:j<N.length) (hf:f (N.getD j 0).toNat=true) {z:Int} (hz:z∈wayN (s.f (N.getD j 0).toNat)) (hw:z≠w):EInv s N w i (setE f z.toNat):=by
 refine⟨fun h1=>?_,fun y hy=>?_⟩
 ·unfold setE;split
  ·rfl
  ·exact h.st h1
 ·unfold setE at hy
  split at hy
  ·rename_i e
   subst e
   obtain⟨k,k1,k2,k3,k4,k5,k6⟩:=way_to hN hj hz
   obtain⟨x,hx,_⟩:=hN.at_ j hj
   rw [hx,Int.toNat_natCast] at hf
   obtain⟨j',j1,j2,j3,j4⟩:=h.ok x hf
   have hjj:j'=j:=by
    have h1:=posL_at hN.nd j1
    have h2:=posL_at hN.nd hj
    rw [j2,← hx,h2] at h1
    exact (Option.some.inj h1).symm
   subst hjj
   refine⟨k,k2,by rw [k3];omega,by rw [show ((z.toNat:Nat):Int)=z by omega];exact hw,fun ⟨l,l1,l2⟩=>j4 ⟨j'::l,.go k4 l1,fun x hx=>?_⟩⟩
   rcases List.mem_cons.1 hx with rfl|hx
   ·rw [j2];exact j3
   ·exact l2 x hx
  ·exact h.ok y hy
theorem EInv.found {s:BSt} {N:List Int} (hN:NsOk s N) {w:Int} {i:Nat} {f:Nat→Bool} (h:EInv s N w i f) {j:Nat} (hj:j<N.length) (hf:f (N.getD j 0).toNat=true) (he:endB (s.f (N.getD j 0).toNat)=true):FreeW (pgN s.f N) N w i:=by
 obtain⟨x,hx,_⟩:=hN.at_ j hj
 have hf':=hf
 rw [hx,Int.toNat_natCast] at hf'
 obtain⟨j',j1,j2,j3,j4⟩:=h.ok x hf'
 have hjj:j'=j:=by
  have h1:=posL_at hN.nd j1
  have h2:=posL_at hN.nd hj
  rw [j2,← hx,h2] at h1
  exact (Option.some.inj h1).symm
 subst hjj
 refine j4 ⟨[j'],.stop he,fun x hx=>?_⟩
 rw [List.mem_singleton.1 hx,j2]
 exact j3
def ClosE (s:BSt) (N:List Int) (w:Int) (f:Nat→Bool) (n:Nat):Prop:=∀ j,j<n→f (N.getD j 0).toNat=true→endB (s.f (N.getD j 0).toNat)=false∧∀ z∈wayN (s.f (N.getD j 0).toNat),z≠w→f z.toNat=true
theorem EInv.done {s:BSt} {N:List Int} (hN:NsOk s N) {w:Int} {i:Nat} (hi:i<N.length) {f:Nat→Bool} (h:EInv s N w i f) (hc:ClosE s N w f N.length):¬ FreeW (pgN s.f N) N w i:=by
 rintro⟨l,hl,hw⟩
 have key:∀ j l,Way (pgN s.f N) j l→j<N.length→f (N.getD j 0).toNat=true→(∀ x∈l,N.getD x 0≠w)→False:=by
  intro j l hl
  induction hl with
  | @stop j he =>
   intro hj hf _
   have:=(hc j hj hf).1
   have he:endB (s.f (N.getD j 0).toNat)=true:=he
   rw [he] at this
   cases this
  | @go j k l hk hl ih =>
   intro hj hf hw
   obtain⟨z,hz,e⟩:=List.mem_map.1 hk
   obtain⟨k',k1,k2,k3,k4,k5,k6⟩:=way_to hN hj hz
   rw [k1] at e
   have e:k'=k:=e
   subst e
   have hkw:=hw k' (List.mem_cons_of_mem _ hl.head)
   rw [k3] at hkw
   have:=(hc j hj hf).2 z hz hkw
   exact ih k2 (by rw [k3];exact this) fun x hx=>hw x (List.mem_cons_of_mem _ hx)
 exact key i l hl hi (h.st (hw i hl.head)) hw
end Go.Ru
namespace Go.Proofs.YtcmepkfefoidcaaGreatDoor
open Go.AE Go.Ru
set_option maxRecDepth 100000
set_option maxHeartbeats 400000
theorem qamong_ok:COk 53 cAmong11:=by
 rintro args K k ⟨l,n,b,rfl,hl,rfl,hk⟩
 refine frame0P g0_ok 19 rfl fun Q hr=>?_
 conv=>whnf
 refine loop_up (ι:=Nat) [0,1] (fun i=>[(5,intV i)]) (fun _=>[]) (fun i=>i≤l.length∧n ∉ l.take i) (fun i=>l.length - i) 0 ⟨AV.le_refl _,trivial⟩ trivial ⟨Nat.zero_le _,by simp⟩ ?_
 rintro Y hle i ⟨hi,hni⟩ ih
 conv=>whnf
 refine two_dec (fun h=>?_) (fun h=>?_)
 ·have h:i<l.length:=by have h:(i:Int)<(l.length:Int):=h;omega
  have hw1:=wzz (i:=i) (by omega)
  have hil:(i:Int)<(l.length:Int):=by omega
  have e1:l.getD i 0=l[i]:=by simp [h]
  have htk:l.take (i+1)=l.take i++[l.getD i 0]:=by rw [List.take_add_one,e1,List.getElem?_eq_getElem h];rfl
  conv=>whnf
  refine Chk.mk ⟨Int.natCast_nonneg i,hil,rfl⟩ ?_
  conv=>whnf
  refine two_eq (fun h2=>?_) (fun h2=>?_)
  ·have h2:l.getD i 0=n:=h2
   have hm:n∈l:=by rw [← h2,e1];exact List.getElem_mem h
   rw [decide_eq_true hm] at hk
   conv=>whnf
   exact hr _ _ rfl hk
  ·have h2:l.getD i 0≠n:=h2
   conv=>whnf
   refine hle _ _ (Le.env ?_ ?_) (ih (i+1) (by omega) ⟨by omega,by rw [htk];simp only [List.mem_append,List.mem_cons,List.not_mem_nil,or_false,not_or];exact⟨hni,fun e=>h2 e.symm⟩⟩)
   ·skip
    repeat' (first|exact trivial|((conv=>whnf);first|exact trivial|refine⟨AV.le_refl _,?_⟩|refine⟨ABlk.le_refl _,?_⟩|(refine⟨AV.le_of_eq ?_,?_⟩;focus ((first|exact congrArg intV hw1|fail);done))|(refine⟨ABlk.le_of_eq ?_,?_⟩;focus ((first|exact congrArg intV hw1|fail);done))|fail)|fail)
   ·skip
    repeat' (first|exact trivial|((conv=>whnf);first|exact trivial|refine⟨AV.le_refl _,?_⟩|refine⟨ABlk.le_refl _,?_⟩|fail)|fail)
 ·obtain rfl:i=l.length:=by have h:¬ (i:Int)<(l.length:Int):=h;omega
  rw [List.take_length] at hni
  rw [decide_eq_false hni] at hk
  conv=>whnf
  exact hr _ _ rfl hk
theorem qends_ok:COk 87 cEnds:=by
 rintro args K k ⟨g,b,rfl,rfl,hk⟩
 refine frame0P g0_ok 19 rfl fun Q hr=>?_
 conv=>whnf
 refine two_eq (fun h=>?_) (fun h=>?_)
 ·have h:g.k=2:=h
  rw [show endB g=true by simp [endB,h]] at hk
  conv=>whnf
  exact hr _ _ rfl hk
 ·have h:g.k≠2:=h
  have e:endB g=(g.k==3):=by simp [endB,h]
  rw [e] at hk
  conv=>whnf
  exact hr _ _ rfl hk
theorem fzQ {N r n:Nat} {K:List ABlk} {l:List Int} {f:Nat→List AV} (hn:n=l.length) (hf:∀ i,i<n→f i=[intV (l.getD i 0)]) (hr:nth K r=some (.arr 3 1 0 n f)):Wk1 N (.slr r 0 0 n) K (intsV l) (setN K r .dead):=by
 subst hn
 exact Wk1.freeze hr (kidF l) hf
theorem cat0 {l:List Int} {n i:Nat} {f:Nat→List AV} (hi:i<0+n):catF 0 f (fun i=>pvs (kidF l i)) i=[intV (l.getD i 0)]:=by
 rw [catF_ge (Nat.zero_le _),Nat.sub_zero];rfl
theorem cat1 {l:List Int} {x:Int} {n i:Nat} {f f':Nat→List AV} (hn:n=l.length) (hf:f' 0=[intV x]) (hi:i<0+n+1):catF (0+n) (catF 0 f fun i=>pvs (kidF l i)) f' i=[intV ((l++[x]).getD i 0)]:=by
 subst hn
 by_cases h:i<0+l.length
 ·rw [catF_lt h,cat0 h,getD_left (by omega)]
 ·obtain rfl:i=0+l.length:=by omega
  rw [catF_ge (Nat.le_refl _),Nat.sub_self,hf,getD_right (by omega),Nat.zero_add,Nat.sub_self];rfl
theorem qways_ok:COk 52 cWays:=by
 rintro args K k ⟨g,l,rfl,hn,rfl,hk⟩
 refine frameZ (K0:=[]) (X:=K) g0_ok 19 rfl trivial fun Q hr=>?_
 conv=>whnf
 refine Chk.mk ⟨rfl,fun _ _=>rfl⟩ ?_
 conv=>whnf
 refine Chk.mk ⟨rfl,rfl,rfl,rfl,(by show (0+g.nx.length)*8≤140737488355328;omega),(by show 0+g.nx.length≤9223372036854775807;omega)⟩ ?_
 conv=>whnf
 refine two_ne (fun h=>?_) (fun h=>?_)
 ·have h:g.ra≠-1:=h
  rw [show wayN g=g.nx++[g.ra] by simp [wayN,h]] at hk
  conv=>whnf
  refine Chk.mk ⟨rfl,rfl,rfl,allLt_ok ⟨trivial,rfl⟩⟩ ?_
  conv=>whnf
  refine Chk.mk ⟨rfl,rfl,rfl,rfl,(by show (0+g.nx.length+1)*8≤140737488355328;omega),(by show 0+g.nx.length+1≤9223372036854775807;omega)⟩ ?_
  conv=>whnf
  exact hr _ _ (intsV (g.nx++[g.ra])) [] _ (fzQ (r:=1) (by simp) (fun i hi=>cat1 rfl rfl hi) rfl) rfl rfl trivial hk
 ·have h:g.ra=-1:=h
  rw [show wayN g=g.nx by simp [wayN,h]] at hk
  conv=>whnf
  exact hr _ _ (intsV g.nx) [] _ (fzQ (r:=1) (by simp) (fun i hi=>cat0 hi) rfl) rfl rfl trivial hk
def qB (s:BSt) (N:List Int) (proc:Int):ABlk:=.box 93 [.rop [.sl 5 s.n (gnW s.f),.sl 1 s.ps.length (kidF s.ps)] 0,intV proc,intsV N]
def qK (s:BSt) (N:List Int) (proc:Int):List ABlk:=[qB s N proc]
theorem qK_cl {s:BSt} {N:List Int} {proc:Int}:clK 1 (qK s N proc):=⟨rfl,trivial⟩
structure QOk (s:BSt) (N:List Int):Prop where
 ns:NsOk s N
 n:s.n<4096
 len:N.length<4096
 short:∀ x,x<s.n→(s.f x).nx.length<1000
structure EB where
 f:Nat→Bool
 b:Bool
structure EC where
 i:Nat
 f:Nat→Bool
 b:Bool
def gainE (b:Bool):Nat:=if b then 2 else 0
def seenE (n:Nat) (f:Nat→Bool):ABlk:=.arr 4 1 0 n (fun i=>[.p (.bool (f i))])
theorem seen_setE {n x x':Nat} {f:Nat→Bool} {b:Bool} {c:List AV} (hx:x'=x) (hc:c=[.p (.bool b)]):(ABlk.arr 4 1 0 n (updF (fun i=>[.p (.bool (f i))]) x' c)).le (seenE n fun j=>if j=x then b else f j):=by
 subst hx hc
 refine ABlk.arr_eq rfl fun i hi=>?_
 rw [updF_eq]
 by_cases e:i=x'<;>simp [e]
def cEnded:AC:=fun args K k=>∃ s N proc i a w X,args=[.ptr 0 0 1 0 0,intV a,intV w]∧K=qK s N proc++X∧QOk s N∧i<N.length∧N.getD i 0=a∧∀ b,(b=true↔FreeW (pgN s.f N) N w i)→k (.ret (.p (.bool b))) (qK s N proc++X)
def gEd11:AG:=gput 52 cWays (gput 87 cEnds g0)
theorem gEd11_ok:GOk Tryz.prog gEd11:=gput_ok qways_ok (gput_ok qends_ok g0_ok)
theorem ended_ok:COk 54 cEnded:=by
 rintro args K k ⟨s,N,proc,i,a,w,X,rfl,rfl,hq,hi,ha,hk⟩
 obtain⟨x,hx,hxn⟩:=hq.ns.at_ i hi
 obtain rfl:(x:Int)=a:=hx.symm.trans ha
 have hn:=hq.n
 have hlen:=hq.len
 have hxn':(x:Int)<(s.n:Int):=by omega
 have hE0:=einv0 hq.ns (w:=w) hi
 rw [hx,Int.toNat_natCast] at hE0
 refine frameZ (K0:=qK s N proc) (X:=X) gEd11_ok 19 rfl qK_cl fun Q hr=>?_
 conv=>whnf
 refine Chk.mk ⟨by omega,Int.le_refl _,by omega,(by show ((1:Nat):Int)*(s.n:Int)≤140737488355328;omega)⟩ ?_
 conv=>whnf
 refine Chk.mk ⟨rfl,Nat.zero_add _,Int.natCast_nonneg x,hxn',rfl⟩ ?_
 conv=>whnf
 refine Chk.mk ⟨rfl,rfl⟩ ?_
 conv=>whnf
 refine loop_up (ι:=EB) [0,2,7] (fun c=>[(8,.p (.bool c.b))]) (fun c=>[(1,seenE s.n c.f)]) (fun c=>EInv s N w i c.f∧(c.b=false→ClosE s N w c.f N.length)) (fun c=>2*cntE c.f s.n+(if c.b then 1 else 0)) ⟨_,true⟩
  ⟨AV.le_refl _,trivial⟩ ⟨upLe1 rfl (seen_setE (by simp) rfl),trivial⟩ ⟨hE0,fun e=>by cases e⟩ ?_
 rintro Y hle ⟨f0,b0⟩ ⟨hR0,hC0⟩ ih
 simp only at hR0 hC0
 cases b0 with
 | false =>
  have hD:¬ FreeW (pgN s.f N) N w i:=hR0.done hq.ns hi (hC0 rfl)
  conv=>whnf
  exact hr _ _ (.p (.bool false)) (qK s N proc) _ (Wk1.refl _ _ _) rfl rfl qK_cl (hk false ⟨fun h=>(by cases h),fun h=>absurd h hD⟩)
 | true =>
 conv=>whnf
 refine loop_up (ι:=EC) [0,2,7] (fun c=>[(8,.p (.bool c.b)),(9,intV c.i)]) (fun c=>[(1,seenE s.n c.f)]) (fun c=>c.i≤N.length∧EInv s N w i c.f∧2*cntE c.f s.n+gainE c.b≤2*cntE f0 s.n∧(c.b=false→ClosE s N w c.f c.i)) (fun c=>N.length - c.i) ⟨0,f0,false⟩
  ⟨AV.le_refl _,AV.le_refl _,trivial⟩ ⟨upLe1 rfl (ABlk.le_refl _),trivial⟩ ⟨Nat.zero_le _,hR0,by simp [gainE],fun _ i hi=>absurd hi (Nat.not_lt_zero _)⟩ ?_
 rintro Z hlz ⟨j,f1,b1⟩ ⟨hj,hR1,hcn1,hC1⟩ ihz
 simp only at hj hR1 hcn1 hC1
 conv=>whnf
 refine two_dec (fun h=>?_) (fun h=>?_)
 rotate_left
 ·obtain rfl:j=N.length:=by have h:¬ (j:Int)<(N.length:Int):=h;omega
  conv=>whnf
  refine hle _ _ (Le.env ?_ ?_) (ih ⟨f1,b1⟩ (by
   show 2*cntE f1 s.n+(if b1=true then 1 else 0)<2*cntE f0 s.n+1
   cases b1 with
   | true=>simp only [gainE,if_pos] at hcn1;simp only [if_pos];omega
   | false=>simp only [gainE] at hcn1;simp at hcn1 ⊢;omega) ⟨hR1,hC1⟩)
  ·skip
   repeat' (first|exact trivial|((conv=>whnf);first|exact trivial|refine⟨AV.le_refl _,?_⟩|refine⟨ABlk.le_refl _,?_⟩|fail)|fail)
  ·skip
   repeat' (first|exact trivial|((conv=>whnf);first|exact trivial|refine⟨AV.le_refl _,?_⟩|refine⟨ABlk.le_refl _,?_⟩|fail)|fail)
 have h':(j:Int)<(N.length:Int):=h
 have h:j<N.length:=by omega
 have hw1:=wzz (i:=j) (by omega)
 obtain⟨y,hy,hyn⟩:=hq.ns.at_ j h
 have hyn':(y:Int)<(s.n:Int):=by omega
 have hkid:kidF N (Int.toNat (j:Int))=[.int .i64 (y:Int)]:=by rw [Int.toNat_natCast];unfold kidF;rw [hy]
 conv=>whnf
 refine Chk.mk ⟨Int.natCast_nonneg j,h',rfl⟩ ?_
 conv in (kidF N _)=>rw [hkid]
 conv=>whnf
 refine Chk.mk ⟨rfl,Nat.zero_add _,Int.natCast_nonneg y,hyn',rfl⟩ ?_
 conv=>whnf
 refine Chk.mk ⟨rfl,rfl⟩ ?_
 conv=>whnf
 refine two_not (fun hs=>?_) (fun hs=>?_)
 ·have hs:f1 y=false:=by have hs:f1 (0+y)=false:=hs;rwa [Nat.zero_add] at hs
  conv=>whnf
  refine hlz _ _ (Le.env ?_ ?_) (ihz ⟨j+1,f1,b1⟩ (by show _ - (j+1)<_ - j;omega) ⟨h,hR1,hcn1,fun e t ht hft=>(Nat.lt_succ_iff_lt_or_eq.1 ht).elim (fun h2=>hC1 e t h2 hft) fun e2=>absurd hft (by rw [e2,hy,Int.toNat_natCast];show ¬ f1 y=true;rw [hs];decide)⟩)
  ·skip
   repeat' (first|exact trivial|((conv=>whnf);first|exact trivial|refine⟨AV.le_refl _,?_⟩|refine⟨ABlk.le_refl _,?_⟩|(refine⟨AV.le_of_eq ?_,?_⟩;focus ((first|exact congrArg intV hw1|fail);done))|(refine⟨ABlk.le_of_eq ?_,?_⟩;focus ((first|exact congrArg intV hw1|fail);done))|fail)|fail)
  ·skip
   repeat' (first|exact trivial|((conv=>whnf);first|exact trivial|refine⟨AV.le_refl _,?_⟩|refine⟨ABlk.le_refl _,?_⟩|fail)|fail)
 have hs:f1 y=true:=by have hs:f1 (0+y)=true:=hs;rwa [Nat.zero_add] at hs
 have hs':f1 (N.getD j 0).toNat=true:=by rw [hy,Int.toNat_natCast];exact hs
 conv=>whnf
 refine Chk.mk ⟨Int.natCast_nonneg y,hyn',rfl⟩ ?_
 conv=>whnf
 refine⟨s.f y,_,rfl,rfl,?_⟩
 conv=>whnf
 refine two_intro (fun he=>?_) (fun he=>?_)
 ·have he:endB (s.f y)=true:=he
  have hF:=hR1.found hq.ns h hs' (by rw [hy,Int.toNat_natCast];exact he)
  conv=>whnf
  exact hr _ _ (.p (.bool true)) (qK s N proc) _ (Wk1.refl _ _ _) rfl rfl qK_cl (hk true ⟨fun _=>hF,fun _=>rfl⟩)
 have he:endB (s.f y)=false:=he
 obtain⟨l,hl⟩:∃ l,wayN (s.f y)=l:=⟨_,rfl⟩
 have hll:l.length≤1001:=by
  have:=hq.short y hyn
  rw [← hl];unfold wayN;split<;>simp<;>omega
 have hlm:∀ t,t<l.length→l.getD t 0∈wayN (s.f (N.getD j 0).toNat):=fun t ht=>by
  rw [hy,Int.toNat_natCast,hl,List.getD_eq_getElem?_getD,List.getElem?_eq_getElem ht];exact List.getElem_mem ht
 conv=>whnf
 refine Chk.mk ⟨Int.natCast_nonneg y,hyn',rfl⟩ ?_
 conv=>whnf
 refine⟨s.f y,l,rfl,by have:=hq.short y hyn;omega,hl,?_⟩
 conv=>whnf
 refine loop_up (ι:=EC) [0,2,7,9,11] (fun c=>[(8,.p (.bool c.b)),(12,intV c.i)]) (fun c=>[(1,seenE s.n c.f)])
  (fun c=>c.i≤l.length∧EInv s N w i c.f∧c.f (N.getD j 0).toNat=true∧2*cntE c.f s.n+gainE c.b≤2*cntE f0 s.n∧(c.b=false→ClosE s N w c.f j∧∀ t,t<c.i→l.getD t 0≠w→c.f (l.getD t 0).toNat=true)) (fun c=>l.length - c.i) ⟨0,f1,b1⟩
  ⟨AV.le_refl _,AV.le_refl _,trivial⟩ ⟨upLe1 rfl (ABlk.le_refl _),trivial⟩ ⟨Nat.zero_le _,hR1,hs',hcn1,fun e=>⟨hC1 e,fun t ht=>absurd ht (Nat.not_lt_zero _)⟩⟩ ?_
 rintro Z2 hlk ⟨k',f,b⟩ ⟨hkl,hR2,hfi2,hcn2,hcb⟩ ihk
 simp only at hkl hR2 hfi2 hcn2 hcb
 conv=>whnf
 refine two_dec (fun h2=>?_) (fun h2=>?_)
 rotate_left
 ·obtain rfl:k'=l.length:=by have h2:¬ (k':Int)<(l.length:Int):=h2;omega
  conv=>whnf
  refine hlz _ _ (Le.env ?_ ?_) (ihz ⟨j+1,f,b⟩ (by show _ - (j+1)<_ - j;omega) ⟨h,hR2,hcn2,fun e t ht hft=>(Nat.lt_succ_iff_lt_or_eq.1 ht).elim (fun h2=>(hcb e).1 t h2 hft) fun e2=>by
   subst e2
   refine⟨by rw [hy,Int.toNat_natCast];exact he,fun z hz hzw=>?_⟩
   rw [hy,Int.toNat_natCast,hl] at hz
   obtain⟨t',ht',e3⟩:=List.getElem_of_mem hz
   have:=(hcb e).2 t' ht'
   rw [List.getD_eq_getElem?_getD,List.getElem?_eq_getElem ht',e3] at this
   exact this hzw⟩)
  ·skip
   repeat' (first|exact trivial|((conv=>whnf);first|exact trivial|refine⟨AV.le_refl _,?_⟩|refine⟨ABlk.le_refl _,?_⟩|(refine⟨AV.le_of_eq ?_,?_⟩;focus ((first|exact congrArg intV hw1|fail);done))|(refine⟨ABlk.le_of_eq ?_,?_⟩;focus ((first|exact congrArg intV hw1|fail);done))|fail)|fail)
  ·skip
   repeat' (first|exact trivial|((conv=>whnf);first|exact trivial|refine⟨AV.le_refl _,?_⟩|refine⟨ABlk.le_refl _,?_⟩|fail)|fail)
 have hk':(k':Int)<(l.length:Int):=h2
 have hkn:k'<l.length:=by omega
 have hw3:=wzz (i:=k') (by omega)
 obtain⟨_,_,_,_,_,z0,z1⟩:=way_to hq.ns h (hlm k' hkn)
 obtain⟨z,hz2⟩:∃ z:Nat,l.getD k' 0=(z:Int):=⟨(l.getD k' 0).toNat,by omega⟩
 have hzn:z<s.n:=by omega
 have hzn':(z:Int)<(s.n:Int):=by omega
 have hkidz:kidF l (Int.toNat (k':Int))=[.int .i64 (z:Int)]:=by rw [Int.toNat_natCast];unfold kidF;rw [hz2]
 have hcs:∀ (hz:(z:Int)=w∨f z=true),b=false→ClosE s N w f j∧∀ t,t<k'+1→l.getD t 0≠w→f (l.getD t 0).toNat=true:=fun hz e=>⟨(hcb e).1,fun t ht hne=>(Nat.lt_succ_iff_lt_or_eq.1 ht).elim (fun h3=>(hcb e).2 t h3 hne) fun e2=>by
  subst e2
  rw [hz2] at hne ⊢
  rw [Int.toNat_natCast]
  exact hz.resolve_left hne⟩
 conv=>whnf
 refine Chk.mk ⟨Int.natCast_nonneg k',hk',rfl⟩ ?_
 conv in (kidF l _)=>rw [hkidz]
 conv=>whnf
 refine two_ne (fun h3=>?_) (fun h3=>?_)
 ·have h3:(z:Int)≠w:=h3
  have hgz:l.getD k' 0∈wayN (s.f (N.getD j 0).toNat):=hlm k' hkn
  have hzv:0+z=z:=Nat.zero_add z
  conv=>whnf
  refine Chk.mk ⟨Int.natCast_nonneg k',hk',rfl⟩ ?_
  conv in (kidF l _)=>rw [hkidz]
  conv=>whnf
  refine Chk.mk ⟨rfl,Nat.zero_add _,Int.natCast_nonneg z,hzn',rfl⟩ ?_
  conv=>whnf
  refine Chk.mk ⟨rfl,rfl⟩ ?_
  conv=>whnf
  refine two_not (fun hs2=>?_) (fun hs2=>?_)
  ·have hs2:f z=false:=by have hs2:f (0+z)=false:=hs2;rwa [hzv] at hs2
   have hcs:=cntE_set hs2 hzn
   have hgb:2*cntE (setE f z) s.n+gainE true≤2*cntE f0 s.n:=by simp only [gainE,if_pos];omega
   have hset:=hR2.set hq.ns h hfi2 hgz (by rw [hz2];exact h3)
   rw [hz2,Int.toNat_natCast] at hset
   conv=>whnf
   refine Chk.mk ⟨Int.natCast_nonneg k',hk',rfl⟩ ?_
   conv in (kidF l _)=>rw [hkidz]
   conv=>whnf
   refine Chk.mk ⟨rfl,Nat.zero_add _,Int.natCast_nonneg z,hzn',rfl⟩ ?_
   conv=>whnf
   refine Chk.mk ⟨rfl,rfl⟩ ?_
   conv=>whnf
   refine hlk _ _ (Le.env ?_ ?_) (ihk ⟨k'+1,setE f z,true⟩ (by show _ - (k'+1)<_ - k';omega) ⟨hkn,hset,by show setE f z _=true;unfold setE;split;rfl;exact hfi2,hgb,fun e=>by cases e⟩)
   ·skip
    repeat' (first|exact trivial|((conv=>whnf);first|exact trivial|refine⟨AV.le_refl _,?_⟩|refine⟨ABlk.le_refl _,?_⟩|(refine⟨AV.le_of_eq ?_,?_⟩;focus ((first|exact congrArg intV hw3|fail);done))|(refine⟨ABlk.le_of_eq ?_,?_⟩;focus ((first|exact congrArg intV hw3|fail);done))|fail)|fail)
   ·skip
    (conv=>whnf);refine⟨ABlk.le_refl _,?_⟩
    (conv=>whnf);refine⟨seen_setE hzv rfl,?_⟩
    (conv=>whnf);exact trivial
  ·have hs2:f z=true:=by have hs2:f (0+z)=true:=hs2;rwa [hzv] at hs2
   have hcs2:=hcs (.inr hs2)
   conv=>whnf
   refine hlk _ _ (Le.env ?_ ?_) (ihk ⟨k'+1,f,b⟩ (by show _ - (k'+1)<_ - k';omega) ⟨hkn,hR2,hfi2,hcn2,hcs2⟩)
   ·skip
    repeat' (first|exact trivial|((conv=>whnf);first|exact trivial|refine⟨AV.le_refl _,?_⟩|refine⟨ABlk.le_refl _,?_⟩|(refine⟨AV.le_of_eq ?_,?_⟩;focus ((first|exact congrArg intV hw3|fail);done))|(refine⟨ABlk.le_of_eq ?_,?_⟩;focus ((first|exact congrArg intV hw3|fail);done))|fail)|fail)
   ·skip
    repeat' (first|exact trivial|((conv=>whnf);first|exact trivial|refine⟨AV.le_refl _,?_⟩|refine⟨ABlk.le_refl _,?_⟩|fail)|fail)
 ·have h3:(z:Int)=w:=h3
  have hcs2:=hcs (.inl h3)
  conv=>whnf
  refine hlk _ _ (Le.env ?_ ?_) (ihk ⟨k'+1,f,b⟩ (by show _ - (k'+1)<_ - k';omega) ⟨hkn,hR2,hfi2,hcn2,hcs2⟩)
  ·skip
   repeat' (first|exact trivial|((conv=>whnf);first|exact trivial|refine⟨AV.le_refl _,?_⟩|refine⟨ABlk.le_refl _,?_⟩|(refine⟨AV.le_of_eq ?_,?_⟩;focus ((first|exact congrArg intV hw3|fail);done))|(refine⟨ABlk.le_of_eq ?_,?_⟩;focus ((first|exact congrArg intV hw3|fail);done))|fail)|fail)
  ·skip
   repeat' (first|exact trivial|((conv=>whnf);first|exact trivial|refine⟨AV.le_refl _,?_⟩|refine⟨ABlk.le_refl _,?_⟩|fail)|fail)
structure QM (s:BSt) (proc:Int) (M:PM):Prop where
 of:PMof s proc M
 k:PMk M
 q:QOk s M.N
theorem qm_of {s:BSt} {proc:Int} {M:PM} (h:PMof s proc M) (hn:s.n<4096) (hs:∀ x,x<s.n→(s.f x).nx.length<1000):QM s proc M:=by
 have hl:M.N.length<4096:=by rw [h.N];have:=ndsP_len s.f proc s.n;omega
 refine⟨h,⟨h.ok,hl⟩,⟨⟨h.ok.nd,fun i hi=>?_,fun i hi=>?_⟩,hn,hl,hs⟩⟩
 ·have:M.N.getD i 0∈ndsP s.f proc s.n:=by rw [← h.N,List.getD_eq_getElem?_getD,List.getElem?_eq_getElem hi];exact List.getElem_mem hi
  obtain⟨x,h1,h2,_⟩:=ndsP_mem.1 this
  exact⟨x,h1,h2⟩
 ·have:=h.good.ok.in_ i (by rw [← h.N];exact hi)
  rwa [← h.N] at this
theorem free_iff {s:BSt} {proc:Int} {M:PM} (h:QM s proc M) {i j:Nat} (hi:i<M.N.length) (hj:j<M.N.length):(!M.P i j)=true↔FreeW (pgN s.f M.N) M.N (M.N.getD j 0) i:=by
 have hl:=h.of.ok.len
 have hp:=h.of.ok.pass.iff i (by omega) j
 rw [h.of.g] at hp
 have hok:=h.of.ok.ok
 rw [h.of.g] at hok
 rw [Bool.not_eq_true',← Bool.not_eq_true,hp]
 constructor
 ·intro hn
  have hn:¬ ∀ l,Go.Ru.Way (pgN s.f M.N) i l→j∈l:=hn
  obtain⟨l,hl2⟩:=Classical.not_forall.1 hn
  obtain⟨h1,h2⟩:=Classical.not_imp.1 hl2
  refine⟨l,h1,fun x hx e=>?_⟩
  have hxn:=h1.rng hok (show i<(pgN s.f M.N).n from hi) x hx
  have e1:=posL_at h.of.ok.nd (show x<M.N.length from hxn)
  have e2:=posL_at h.of.ok.nd hj
  rw [e,e2] at e1
  exact h2 (Option.some.inj e1▸hx)
 ·rintro⟨l,h1,h2⟩ hp
  exact h2 j (hp l h1) rfl
def cRPasses:AC:=fun args K k=>∃ s proc M a b v X,args=[.ptr 0 0 1 0 0,intV a,intV b]∧K=qK s M.N proc++X∧QM s proc M∧passM M a b=v∧k (.ret (.p (.bool v))) (qK s M.N proc++X)
def gQp:AG:=gput 53 cAmong11 (gput 54 cEnded g0)
theorem gQp_ok:GOk Tryz.prog gQp:=gput_ok qamong_ok (gput_ok ended_ok g0_ok)
theorem qpasses_ok:COk 134 cRPasses:=by
 rintro args K k ⟨s,proc,M,a,b,v,X,rfl,rfl,hq,rfl,hk⟩
 have hlen:=hq.q.len
 have hmem:=fun y=>posL_mem (y:=y) hq.of.ok.nd
 refine frameZ (K0:=qK s M.N proc) (X:=X) gQp_ok 19 rfl qK_cl fun Q hr=>?_
 conv=>whnf
 refine⟨M.N,a,_,rfl,by omega,rfl,?_⟩
 conv=>whnf
 refine two_eq (fun ha1=>?_) (fun ha1=>?_)
 ·have ha1:a=-1:=ha1
  rw [show passM M a b=(b==-1) by unfold passM;rw [if_pos ha1]] at hk
  conv=>whnf
  exact hr _ _ (.p (.bool (b==-1))) (qK s M.N proc) _ (Wk1.refl _ _ _) rfl rfl qK_cl hk
 have ha1:a≠-1:=ha1
 conv=>whnf
 refine two_not (fun hin=>?_) (fun hin=>?_)
 ·have hin:a ∉ M.N:=of_decide_eq_false hin
  have hpn:posL a M.N=none:=by
   cases e:posL a M.N with
   | none=>rfl
   | some i=>exact absurd ((hmem a).1 ⟨i,e⟩) hin
  rw [show passM M a b=false by unfold passM;rw [if_neg ha1,hpn]] at hk
  conv=>whnf
  exact hr _ _ (.p (.bool false)) (qK s M.N proc) _ (Wk1.refl _ _ _) rfl rfl qK_cl hk
 have hin:a∈M.N:=of_decide_eq_true hin
 obtain⟨i,hpa⟩:=(hmem a).2 hin
 obtain⟨hi,hia⟩:=posL_some hpa
 conv=>whnf
 refine two_eq (fun hb1=>?_) (fun hb1=>?_)
 ·have hb1:b=-1:=hb1
  rw [show passM M a b=true by unfold passM;rw [if_neg ha1,hpa];simp only [if_pos hb1]] at hk
  conv=>whnf
  exact hr _ _ (.p (.bool true)) (qK s M.N proc) _ (Wk1.refl _ _ _) rfl rfl qK_cl hk
 have hb1:b≠-1:=hb1
 conv=>whnf
 refine two_eq (fun hab=>?_) (fun hab=>?_)
 ·have hab:a=b:=hab
  rw [show passM M a b=true by rw [← hab];exact (order1 hq.of.ok hin).1] at hk
  conv=>whnf
  exact hr _ _ (.p (.bool true)) (qK s M.N proc) _ (Wk1.refl _ _ _) rfl rfl qK_cl hk
 have hab:a≠b:=hab
 conv=>whnf
 refine⟨M.N,b,_,rfl,by omega,rfl,?_⟩
 conv=>whnf
 refine two_dec (fun hbn=>?_) (fun hbn=>?_)
 ·have hbn:b∈M.N:=hbn
  obtain⟨j,hpb⟩:=(hmem b).2 hbn
  obtain⟨hj,hjb⟩:=posL_some hpb
  rw [passM_in hq.of.ok hpa hpb] at hk
  have hf:=free_iff hq hi hj
  rw [hjb] at hf
  conv=>whnf
  refine⟨s,M.N,proc,i,a,b,_,rfl,rfl,hq.q,hi,hia,fun v hv=>?_⟩
  have hv2:M.P i j=!v:=by
   have:=hf.trans hv.symm
   cases v<;>cases h:M.P i j<;>simp_all
  rw [hv2] at hk
  conv=>whnf
  exact hr _ _ (.p (.bool (!v))) (qK s M.N proc) _ (Wk1.refl _ _ _) rfl rfl qK_cl hk
 ·have hbn:b ∉ M.N:=hbn
  have hpn:posL b M.N=none:=by
   cases e:posL b M.N with
   | none=>rfl
   | some i=>exact absurd ((hmem b).1 ⟨i,e⟩) hbn
  rw [show passM M a b=false by unfold passM;rw [if_neg ha1,hpa];simp only [if_neg hb1,hpn]] at hk
  conv=>whnf
  exact hr _ _ (.p (.bool false)) (qK s M.N proc) _ (Wk1.refl _ _ _) rfl rfl qK_cl hk
def cRNext:AC:=fun args K k=>∃ s proc M a v X,args=[.ptr 0 0 1 0 0,intV a]∧K=qK s M.N proc++X∧QM s proc M∧nextM M a=v∧k (.ret (intV v)) (qK s M.N proc++X)
def okC (M:PM) (i j c:Nat):Bool:=c==i || (!M.P i c || M.P j c)
def fstC (M:PM) (i j:Nat):Prop:=j≠i∧M.P i j=true∧∀ c,c<M.N.length→okC M i j c=true
theorem fst_next {s:BSt} {proc:Int} {M:PM} (h:QM s proc M) {i j:Nat} (hi:i<M.N.length):fstC M i j↔M.nx i=some j:=by
 have hl:=h.of.ok.len
 have hi':i<M.g.n:=by omega
 constructor
 ·rintro⟨h1,h2,h3⟩
  have hpj:=(h.of.ok.pass.iff i hi' j).1 h2
  have hj:=hpj.rng h.of.ok.ok hi'
  refine near_eq h.of.ok hi' hpj h1 fun m hm hne=>?_
  have hmn:=hm.rng h.of.ok.ok hi'
  have h4:=h3 m (by omega)
  have h5:=(h.of.ok.pass.iff i hi' m).2 hm
  unfold okC at h4
  rw [h5,beq_eq_false_iff_ne.2 hne] at h4
  exact (h.of.ok.pass.iff j hj m).1 (by simpa using h4)
 ·intro e
  obtain⟨h1,h2,h3⟩:=(h.of.ok.nxt.near i hi').some j e
  have hj:=h2.rng h.of.ok.ok hi'
  refine⟨h1,(h.of.ok.pass.iff i hi' j).2 h2,fun c hc=>?_⟩
  unfold okC
  by_cases e1:c=i
  ·simp [e1]
  cases e2:M.P i c with
  | false=>simp
  | true =>
   have:=(h.of.ok.pass.iff j hj c).2 (h3 c ((h.of.ok.pass.iff i hi' c).1 e2) e1)
   simp [this]
structure NC where
 first:Bool
 c:Nat
def gQn:AG:=gput 53 cAmong11 (gput 134 cRPasses g0)
theorem gQn_ok:GOk Tryz.prog gQn:=gput_ok qamong_ok (gput_ok qpasses_ok g0_ok)
theorem qnext_ok:COk 89 cRNext:=by
 rintro args K k ⟨s,proc,M,a,v,X,rfl,rfl,hq,rfl,hk⟩
 have hlen:=hq.q.len
 have hmem:=fun y=>posL_mem (y:=y) hq.of.ok.nd
 have hgl:=hq.of.ok.len
 cases hpa:posL a M.N with
 | none =>
  have hin:a ∉ M.N:=fun h=>by
   obtain⟨i,e⟩:=(hmem a).2 h
   rw [hpa] at e;cases e
  rw [show nextM M a=-2 by unfold nextM;rw [hpa]] at hk
  refine frameZ (K0:=qK s M.N proc) (X:=X) gQn_ok 19 rfl qK_cl fun Q hr=>?_
  conv=>whnf
  refine⟨M.N,a,false,rfl,by omega,decide_eq_false hin,?_⟩
  conv=>whnf
  exact hr _ _ (intV (-2)) (qK s M.N proc) _ (Wk1.refl _ _ _) rfl rfl qK_cl hk
 | some i =>
 obtain⟨hi,hia⟩:=posL_some hpa
 have hin:a∈M.N:=(hmem a).1 ⟨i,hpa⟩
 have hfst:=fun j=>fst_next hq (i:=i) (j:=j) hi
 have hpas:∀ j c,j<M.N.length→c<M.N.length→passM M (M.N.getD j 0) (M.N.getD c 0)=M.P j c:=fun j c hj hc=>passM_in hq.of.ok (posL_at hq.of.ok.nd hj) (posL_at hq.of.ok.nd hc)
 have hinj:∀ j c,j<M.N.length→c<M.N.length→M.N.getD j 0=M.N.getD c 0→j=c:=fun j c hj hc e=>by
  have h1:=posL_at hq.of.ok.nd hj
  have h2:=posL_at hq.of.ok.nd hc
  rw [e,h2] at h1
  exact (Option.some.inj h1).symm
 refine frameZ (K0:=qK s M.N proc) (X:=X) gQn_ok 19 rfl qK_cl fun Q hr=>?_
 conv=>whnf
 refine⟨M.N,a,true,rfl,by omega,decide_eq_true hin,?_⟩
 conv=>whnf
 refine loop_up (ι:=Nat) [0,1] (fun j=>[(5,intV j)]) (fun _=>[]) (fun j=>j≤M.N.length∧∀ t,t<j→¬ fstC M i t) (fun j=>M.N.length - j) 0 ⟨AV.le_refl _,trivial⟩ trivial ⟨Nat.zero_le _,fun t ht=>absurd ht (Nat.not_lt_zero _)⟩ ?_
 rintro Y hle j ⟨hj,hno⟩ ih
 conv=>whnf
 refine two_dec (fun h=>?_) (fun h=>?_)
 rotate_left
 ·have hj':j=M.N.length:=by have h:¬ (j:Int)<(M.N.length:Int):=h;omega
  rw [show nextM M a=-1 by
   unfold nextM;rw [hpa]
   cases e:M.nx i with
   | none=>simp only [e]
   | some t =>
    have ht:=(hq.of.ok.nxt.lt hq.of.ok.pass hq.of.ok.ok (i:=i) (by omega) e).1
    exact absurd ((hfst t).2 e) (hno t (by omega))] at hk
  conv=>whnf
  exact hr _ _ (intV (-1)) (qK s M.N proc) _ (Wk1.refl _ _ _) rfl rfl qK_cl hk
 have h':(j:Int)<(M.N.length:Int):=h
 have h:j<M.N.length:=by omega
 have hw1:=wzz (i:=j) (by omega)
 obtain⟨b,hb⟩:∃ b,M.N.getD j 0=b:=⟨_,rfl⟩
 have hkid:kidF M.N (Int.toNat (j:Int))=[.int .i64 b]:=by rw [Int.toNat_natCast];unfold kidF;rw [hb]
 conv=>whnf
 refine Chk.mk ⟨Int.natCast_nonneg j,h',rfl⟩ ?_
 conv in (kidF M.N _)=>rw [hkid]
 conv=>whnf
 refine two_eq (fun h1=>?_) (fun h1=>?_)
 ·have h1:b=a:=h1
  have hne:¬ fstC M i j:=fun hf=>hf.1 (hinj j i h hi (by rw [hb,hia,h1]))
  conv=>whnf
  refine hle _ _ (Le.env ?_ ?_) (ih (j+1) (by omega) ⟨h,fun t ht=>(Nat.lt_succ_iff_lt_or_eq.1 ht).elim (hno t) fun e=>e▸hne⟩)
  ·skip
   repeat' (first|exact trivial|((conv=>whnf);first|exact trivial|refine⟨AV.le_refl _,?_⟩|refine⟨ABlk.le_refl _,?_⟩|(refine⟨AV.le_of_eq ?_,?_⟩;focus ((first|exact congrArg intV hw1|fail);done))|(refine⟨ABlk.le_of_eq ?_,?_⟩;focus ((first|exact congrArg intV hw1|fail);done))|fail)|fail)
  ·skip
   repeat' (first|exact trivial|((conv=>whnf);first|exact trivial|refine⟨AV.le_refl _,?_⟩|refine⟨ABlk.le_refl _,?_⟩|fail)|fail)
 have h1:b≠a:=h1
 have hji:j≠i:=fun e=>h1 (by rw [← hb,← hia,e])
 conv=>whnf
 refine⟨s,proc,M,a,b,M.P i j,_,rfl,rfl,hq,by rw [← hia,← hb];exact hpas i j hi h,?_⟩
 conv=>whnf
 refine two_not (fun hp=>?_) (fun hp=>?_)
 ·have hp:M.P i j=false:=hp
  have hne:¬ fstC M i j:=fun hf=>by rw [hf.2.1] at hp;cases hp
  conv=>whnf
  refine hle _ _ (Le.env ?_ ?_) (ih (j+1) (by omega) ⟨h,fun t ht=>(Nat.lt_succ_iff_lt_or_eq.1 ht).elim (hno t) fun e=>e▸hne⟩)
  ·skip
   repeat' (first|exact trivial|((conv=>whnf);first|exact trivial|refine⟨AV.le_refl _,?_⟩|refine⟨ABlk.le_refl _,?_⟩|(refine⟨AV.le_of_eq ?_,?_⟩;focus ((first|exact congrArg intV hw1|fail);done))|(refine⟨ABlk.le_of_eq ?_,?_⟩;focus ((first|exact congrArg intV hw1|fail);done))|fail)|fail)
  ·skip
   repeat' (first|exact trivial|((conv=>whnf);first|exact trivial|refine⟨AV.le_refl _,?_⟩|refine⟨ABlk.le_refl _,?_⟩|fail)|fail)
 have hp:M.P i j=true:=hp
 conv=>whnf
 refine loop_up (ι:=NC) [0,1,4,5,6] (fun c=>[(7,.p (.bool c.first)),(8,intV c.c)]) (fun _=>[]) (fun c=>c.c≤M.N.length∧(c.first=true→∀ t,t<c.c→okC M i j t=true)∧(c.first=false→∃ t,t<M.N.length∧okC M i j t=false)) (fun c=>M.N.length - c.c) ⟨true,0⟩ ⟨AV.le_refl _,AV.le_refl _,trivial⟩ trivial ⟨Nat.zero_le _,fun _ t ht=>absurd ht (Nat.not_lt_zero _),fun e=>by cases e⟩ ?_
 rintro Z hlz ⟨first,c⟩ ⟨hc,hT,hF⟩ ihz
 simp only at hc hT hF
 conv=>whnf
 refine two_dec (fun h2=>?_) (fun h2=>?_)
 ·have h2':(c:Int)<(M.N.length:Int):=h2
  have h2n:c<M.N.length:=by omega
  have hw2:=wzz (i:=c) (by omega)
  obtain⟨d,hd⟩:∃ d,M.N.getD c 0=d:=⟨_,rfl⟩
  have hkid2:kidF M.N (Int.toNat (c:Int))=[.int .i64 d]:=by rw [Int.toNat_natCast];unfold kidF;rw [hd]
  cases first with
  | false =>
   have hne:¬ fstC M i j:=fun hf=>by
    obtain⟨t,h3,h4⟩:=hF rfl
    rw [hf.2.2 t h3] at h4;cases h4
   conv=>whnf
   refine hle _ _ (Le.env ?_ ?_) (ih (j+1) (by omega) ⟨h,fun t ht=>(Nat.lt_succ_iff_lt_or_eq.1 ht).elim (hno t) fun e=>e▸hne⟩)
   ·skip
    repeat' (first|exact trivial|((conv=>whnf);first|exact trivial|refine⟨AV.le_refl _,?_⟩|refine⟨ABlk.le_refl _,?_⟩|(refine⟨AV.le_of_eq ?_,?_⟩;focus ((first|exact congrArg intV hw1|fail);done))|(refine⟨ABlk.le_of_eq ?_,?_⟩;focus ((first|exact congrArg intV hw1|fail);done))|fail)|fail)
   ·skip
    repeat' (first|exact trivial|((conv=>whnf);first|exact trivial|refine⟨AV.le_refl _,?_⟩|refine⟨ABlk.le_refl _,?_⟩|fail)|fail)
  | true =>
  conv=>whnf
  refine Chk.mk ⟨Int.natCast_nonneg c,h2',rfl⟩ ?_
  conv in (kidF M.N _)=>rw [hkid2]
  conv=>whnf
  refine two_eq (fun h3=>?_) (fun h3=>?_)
  ·have h3:d=a:=h3
   have hoc:okC M i j c=true:=by
    have:c=i:=hinj c i h2n hi (by rw [hd,hia,h3])
    simp [okC,this]
   conv=>whnf
   refine hlz _ _ (Le.env ?_ ?_) (ihz ⟨true,c+1⟩ (by show _ - (c+1)<_ - c;omega) ⟨h2n,fun _ t ht=>(Nat.lt_succ_iff_lt_or_eq.1 ht).elim (hT rfl t) fun e=>e▸hoc,fun e=>by cases e⟩)
   ·skip
    repeat' (first|exact trivial|((conv=>whnf);first|exact trivial|refine⟨AV.le_refl _,?_⟩|refine⟨ABlk.le_refl _,?_⟩|(refine⟨AV.le_of_eq ?_,?_⟩;focus ((first|exact congrArg intV hw2|fail);done))|(refine⟨ABlk.le_of_eq ?_,?_⟩;focus ((first|exact congrArg intV hw2|fail);done))|fail)|fail)
   ·skip
    repeat' (first|exact trivial|((conv=>whnf);first|exact trivial|refine⟨AV.le_refl _,?_⟩|refine⟨ABlk.le_refl _,?_⟩|fail)|fail)
  have h3:d≠a:=h3
  have hci:c≠i:=fun e=>h3 (by rw [← hd,← hia,e])
  conv=>whnf
  refine⟨s,proc,M,a,d,M.P i c,_,rfl,rfl,hq,by rw [← hia,← hd];exact hpas i c hi h2n,?_⟩
  conv=>whnf
  refine two_not (fun h4=>?_) (fun h4=>?_)
  ·have h4:M.P i c=false:=h4
   have hoc:okC M i j c=true:=by simp [okC,h4]
   conv=>whnf
   refine hlz _ _ (Le.env ?_ ?_) (ihz ⟨true,c+1⟩ (by show _ - (c+1)<_ - c;omega) ⟨h2n,fun _ t ht=>(Nat.lt_succ_iff_lt_or_eq.1 ht).elim (hT rfl t) fun e=>e▸hoc,fun e=>by cases e⟩)
   ·skip
    repeat' (first|exact trivial|((conv=>whnf);first|exact trivial|refine⟨AV.le_refl _,?_⟩|refine⟨ABlk.le_refl _,?_⟩|(refine⟨AV.le_of_eq ?_,?_⟩;focus ((first|exact congrArg intV hw2|fail);done))|(refine⟨ABlk.le_of_eq ?_,?_⟩;focus ((first|exact congrArg intV hw2|fail);done))|fail)|fail)
   ·skip
    repeat' (first|exact trivial|((conv=>whnf);first|exact trivial|refine⟨AV.le_refl _,?_⟩|refine⟨ABlk.le_refl _,?_⟩|fail)|fail)
  have h4:M.P i c=true:=h4
  have hoe:okC M i j c=M.P j c:=by simp [okC,h4,hci]
  conv=>whnf
  refine⟨s,proc,M,b,d,M.P j c,_,rfl,rfl,hq,by rw [← hb,← hd];exact hpas j c h h2n,?_⟩
  conv=>whnf
  refine hlz _ _ (Le.env ?_ ?_) (ihz ⟨M.P j c,c+1⟩ (by show _ - (c+1)<_ - c;omega) ⟨h2n,fun e t ht=>(Nat.lt_succ_iff_lt_or_eq.1 ht).elim (hT rfl t) fun e2=>by rw [e2,hoe];exact e,fun e=>⟨c,h2n,by rw [hoe];exact e⟩⟩)
  ·skip
   repeat' (first|exact trivial|((conv=>whnf);first|exact trivial|refine⟨AV.le_refl _,?_⟩|refine⟨ABlk.le_refl _,?_⟩|(refine⟨AV.le_of_eq ?_,?_⟩;focus ((first|exact congrArg intV hw2|fail);done))|(refine⟨ABlk.le_of_eq ?_,?_⟩;focus ((first|exact congrArg intV hw2|fail);done))|fail)|fail)
  ·skip
   repeat' (first|exact trivial|((conv=>whnf);first|exact trivial|refine⟨AV.le_refl _,?_⟩|refine⟨ABlk.le_refl _,?_⟩|fail)|fail)
 ·have h2:c=M.N.length:=by have h:¬ (c:Int)<(M.N.length:Int):=h2;omega
  conv=>whnf
  refine two_intro (fun hf=>?_) (fun hf=>?_)
  ·have hf:first=true:=hf
   have hs:M.nx i=some j:=(hfst j).1 ⟨hji,hp,fun t ht=>hT hf t (by omega)⟩
   rw [show nextM M a=b by unfold nextM;rw [hpa];simp only [hs,hb]] at hk
   conv=>whnf
   exact hr _ _ (intV b) (qK s M.N proc) _ (Wk1.refl _ _ _) rfl rfl qK_cl hk
  ·have hf:first=false:=hf
   have hne:¬ fstC M i j:=fun hf2=>by
    obtain⟨t,h3,h4⟩:=hF hf
    rw [hf2.2.2 t h3] at h4;cases h4
   conv=>whnf
   refine hle _ _ (Le.env ?_ ?_) (ih (j+1) (by omega) ⟨h,fun t ht=>(Nat.lt_succ_iff_lt_or_eq.1 ht).elim (hno t) fun e=>e▸hne⟩)
   ·skip
    repeat' (first|exact trivial|((conv=>whnf);first|exact trivial|refine⟨AV.le_refl _,?_⟩|refine⟨ABlk.le_refl _,?_⟩|(refine⟨AV.le_of_eq ?_,?_⟩;focus ((first|exact congrArg intV hw1|fail);done))|(refine⟨ABlk.le_of_eq ?_,?_⟩;focus ((first|exact congrArg intV hw1|fail);done))|fail)|fail)
   ·skip
    repeat' (first|exact trivial|((conv=>whnf);first|exact trivial|refine⟨AV.le_refl _,?_⟩|refine⟨ABlk.le_refl _,?_⟩|fail)|fail)
def cRChain:AC:=fun args K k=>∃ s proc M a X,args=[.ptr 0 0 1 0 0,intV a]∧K=qK s M.N proc++X∧QM s proc M∧k (.ret (intsV (chainM M a))) (qK s M.N proc++X)
structure KCq where
 k:Int
 l:List Int
theorem chain_no {M:PM} (h:PMok M) {a:Int} (ha:a ∉ M.N):chainM M a=[]:=by
 unfold chainM
 cases e:posL a M.N with
 | none=>rfl
 | some i=>exact absurd ((posL_mem h.nd).1 ⟨i,e⟩) ha
def gQc:AG:=gput 53 cAmong11 (gput 89 cRNext g0)
theorem gQc_ok:GOk Tryz.prog gQc:=gput_ok qamong_ok (gput_ok qnext_ok g0_ok)
theorem qchain_ok:COk 56 cRChain:=by
 rintro args K k ⟨s,proc,M,a,X,rfl,rfl,hq,hk⟩
 have hlen:=hq.q.len
 have hal:=chain_len hq.k a
 refine frameZ (K0:=qK s M.N proc) (X:=X) gQc_ok 19 rfl qK_cl fun Q hr=>?_
 conv=>whnf
 refine loop_nil (ι:=KCq) 3 1 (fun i=>[intV (([]:List Int).getD i 0)]) (fun c=>⟨[(0,.ptr 0 0 1 0 0),(5,.slr 1 0 0 c.l.length),(6,intV c.k)],qK s M.N proc++[intR 0 c.l]⟩)
  (fun c=>chainM M a=c.l++chainM M c.k) (fun c=>(chainM M c.k).length) ⟨a,[]⟩ (qK s M.N proc)
  rfl ⟨.inl (AV.le_refl _),.inr ⟨rfl,rfl⟩,.inl (AV.le_refl _),trivial⟩ ⟨.inl (ABlk.le_refl _),trivial⟩ rfl rfl ?_
 rintro Y hle ⟨x,l⟩ he ih
 replace he:chainM M a=l++chainM M x:=he
 have hll:l.length≤4097:=by rw [he,List.length_append] at hal;omega
 conv=>whnf
 refine⟨M.N,x,_,rfl,by omega,rfl,?_⟩
 conv=>whnf
 refine two_dec (fun hx=>?_) (fun hx=>?_)
 ·have hx:x∈M.N:=hx
  have hc:=(chains hq.of.ok hx).1
  conv=>whnf
  refine Chk.mk ⟨rfl,rfl,rfl,allLt_ok ⟨trivial,rfl⟩⟩ ?_
  conv=>whnf
  refine Chk.mk ⟨rfl,rfl,rfl,rfl,(by show (l.length+1)*8≤140737488355328;omega),(by show l.length+1≤9223372036854775807;omega)⟩ ?_
  conv=>whnf
  refine⟨s,proc,M,x,_,_,rfl,rfl,hq,rfl,?_⟩
  conv=>whnf
  refine hle _ _ (Le.cutEnv 2 rfl rfl ⟨rfl,catI_cl (fun _ _=>rfl) (oneI_cl rfl),trivial⟩ ?_ ?_) (ih ⟨nextM M x,l++[x]⟩ ?_ ?_)
  ·exact⟨AV.le_refl _,AV.le_of_eq (show AV.slr 1 0 0 (l.length+1)=.slr 1 0 0 (l++[x]).length by simp),AV.le_refl _,trivial⟩
  ·exact⟨ABlk.le_refl _,intR_one rfl rfl,trivial⟩
  ·show (chainM M (nextM M x)).length<(chainM M x).length
   rw [hc];simp
  ·show chainM M a=(l++[x])++chainM M (nextM M x)
   rw [he,hc];simp
 ·have hx:x ∉ M.N:=hx
  rw [chain_no hq.of.ok hx,List.append_nil] at he
  rw [he] at hk
  conv=>whnf
  exact hr _ _ (intsV l) (qK s M.N proc) _ (Wk1.fzL (r:=1) rfl rfl) rfl rfl qK_cl hk
def cRCommon:AC:=fun args K k=>∃ s proc M a b v X,args=[.ptr 0 0 1 0 0,intV a,intV b]∧K=qK s M.N proc++X∧QM s proc M∧commonM M a b=v∧k (.ret (intV v)) (qK s M.N proc++X)
def gQo:AG:=gput 53 cAmong11 (gput 56 cRChain g0)
theorem gQo_ok:GOk Tryz.prog gQo:=gput_ok qamong_ok (gput_ok qchain_ok g0_ok)
theorem qcommon_ok:COk 29 cRCommon:=by
 rintro args K k ⟨s,proc,M,a,b,v,X,rfl,rfl,hq,rfl,hk⟩
 have hla:=chain_len hq.k a
 have hlb:=chain_len hq.k b
 unfold commonM at hk
 refine frameZ (K0:=qK s M.N proc) (X:=X) gQo_ok 19 rfl qK_cl fun Q hr=>?_
 conv=>whnf
 refine⟨s,proc,M,a,_,rfl,rfl,hq,?_⟩
 conv=>whnf
 refine⟨s,proc,M,b,_,rfl,rfl,hq,?_⟩
 obtain⟨la,ea⟩:∃ l,chainM M a=l:=⟨_,rfl⟩
 obtain⟨lb,eb⟩:∃ l,chainM M b=l:=⟨_,rfl⟩
 rw [ea] at hla
 rw [eb] at hlb
 rw [ea,eb] at hk
 rw [ea,eb]
 conv=>whnf
 refine loop_up (ι:=Nat) [7,8] (fun i=>[(9,intV i)]) (fun _=>[]) (fun i=>i≤la.length∧commonL lb (la.drop i)=commonL lb la) (fun i=>la.length - i) 0 ⟨AV.le_refl _,trivial⟩ trivial ⟨Nat.zero_le _,rfl⟩ ?_
 rintro Y hle i ⟨hi,he⟩ ih
 by_cases h:i<la.length
 ·have hw1:=wzz (i:=i) (by omega)
  have h':(i:Int)<(la.length:Int):=by omega
  have e1:la[i]=la.getD i 0:=by simp [h]
  rw [List.drop_eq_getElem_cons h,e1] at he
  simp only [commonL] at he
  conv=>whnf
  refine two_true (decide_eq_true h') ?_
  conv=>whnf
  refine Chk.mk ⟨Int.natCast_nonneg i,h',rfl⟩ ?_
  conv=>whnf
  refine⟨lb,la.getD i 0,_,rfl,by omega,rfl,?_⟩
  conv=>whnf
  refine two_dec (fun h2=>?_) (fun h2=>?_)
  ·have h2:la.getD i 0∈lb:=h2
   rw [if_pos h2] at he
   rw [← he] at hk
   conv=>whnf
   refine Chk.mk ⟨Int.natCast_nonneg i,h',rfl⟩ ?_
   conv=>whnf
   exact hr _ _ (intV (la.getD i 0)) (qK s M.N proc) _ (Wk1.refl _ _ _) rfl rfl qK_cl hk
  ·have h2:la.getD i 0 ∉ lb:=h2
   rw [if_neg h2] at he
   conv=>whnf
   refine hle _ _ (Le.env ?_ ?_) (ih (i+1) (by omega) ⟨by omega,he⟩)
   ·skip
    repeat' (first|exact trivial|((conv=>whnf);first|exact trivial|refine⟨AV.le_refl _,?_⟩|refine⟨ABlk.le_refl _,?_⟩|(refine⟨AV.le_of_eq ?_,?_⟩;focus ((first|exact congrArg intV hw1|fail);done))|(refine⟨ABlk.le_of_eq ?_,?_⟩;focus ((first|exact congrArg intV hw1|fail);done))|fail)|fail)
   ·skip
    repeat' (first|exact trivial|((conv=>whnf);first|exact trivial|refine⟨AV.le_refl _,?_⟩|refine⟨ABlk.le_refl _,?_⟩|fail)|fail)
 ·obtain rfl:i=la.length:=by omega
  have h':¬ ((la.length:Nat):Int)<(la.length:Int):=by omega
  rw [List.drop_length] at he
  rw [← he] at hk
  conv=>whnf
  refine two_false (decide_eq_false h') ?_
  conv=>whnf
  exact hr _ _ (intV (-1)) (qK s M.N proc) _ (Wk1.refl _ _ _) rfl rfl qK_cl hk
def rgV (s:BSt):AV:=.rop [.sl 5 s.n (gnW s.f),.sl 1 s.ps.length (kidF s.ps)] 0
def gnQ (n:Nat) (f:Nat→GN):ABlk:=.arr 94 5 0 n (fun i=>pvs (gnW f i))
def asK (s:BSt) (i:Nat):List ABlk:=[grW s,.box 91 [.slr 2 0 0 i,.p (.sl 1 s.ps.length (kidF s.ps))]]
theorem gnQ_snoc {n:Nat} {G:Nat→GN} {f:Nat→List AV} (hf:f 0=pvs (gnW G n)) :
  (ABlk.arr 94 5 0 (n+1) (catF n (fun i=>pvs (gnW G i)) f)).le (gnQ (n+1) G):=by
 refine ABlk.arr_eq rfl fun i hi=>?_
 by_cases h:i<n
 ·rw [catF_lt h]
 ·obtain rfl:i=n:=by omega
  rw [catF_ge (Nat.le_refl _),Nat.sub_self,hf]
theorem gnQ_cl {n m:Nat} {G:Nat→GN} {f:Nat→List AV} (hf:AV.cls m (f 0)=true):(ABlk.arr 94 5 0 (n+1) (catF n (fun i=>pvs (gnW G i)) f)).cl m:=fun i hi=>by
 by_cases h:i<n
 ·rw [catF_lt h];rfl
 ·obtain rfl:i=n:=by omega
  rw [catF_ge (Nat.le_refl _),Nat.sub_self];exact hf
def cAs:AC:=fun args K k=>∃ s,args=[graphW s]∧s.n<4096∧k (.ret (rgV s)) K
theorem as_ok:COk 27 cAs:=by
 rintro args K k ⟨s,rfl,hn,hk⟩
 refine frameZ (K0:=[]) (X:=K) g0_ok 19 rfl trivial fun Q hr=>?_
 conv=>whnf
 refine loop_nil (ι:=Nat) 94 5 (fun i=>pvs (gnW s.f i)) (fun i=>⟨[(1,.ptr 0 0 1 0 0),(3,.ptr 1 0 1 0 0),(4,intV i)],asK s i++[gnQ i s.f]⟩)
  (fun i=>i≤s.n) (fun i=>s.n - i) 0 (asK s 0)
  rfl ⟨.inl (AV.le_refl _),.inl (AV.le_refl _),.inl (AV.le_refl _),trivial⟩ ⟨.inl (ABlk.le_refl _),.inr ⟨_,_,_,rfl,rfl,.inr ⟨rfl,rfl⟩,.inl (AV.le_refl _),trivial⟩,trivial⟩ rfl (Nat.zero_le _) ?_
 rintro Y hle i hi ih
 by_cases h:i<s.n
 ·have h':(i:Int)<(s.n:Int):=by omega
  have hw1:=wzz (i:=i) (by omega)
  conv=>whnf
  refine two_true (decide_eq_true h') ?_
  conv=>whnf
  refine Chk.mk ⟨Int.natCast_nonneg i,h',rfl⟩ ?_
  conv=>whnf
  repeat ((refine And.intro ?_ ?_);(focus ((conv=>whnf);done));conv=>whnf)
  refine Chk.mk ⟨rfl,rfl,rfl,allLt_ok ⟨trivial,rfl⟩⟩ ?_
  conv=>whnf
  repeat ((refine And.intro ?_ ?_);(focus ((conv=>whnf);done));conv=>whnf)
  refine Chk.mk ⟨rfl,rfl,rfl,rfl,(by show (i+1)*56≤140737488355328;omega),(by show i+1≤9223372036854775807;omega)⟩ ?_
  conv=>whnf
  refine hle _ _ (Le.cutEnv 3 rfl rfl ⟨rfl,rfl,gnQ_cl rfl,trivial⟩ ?_ ?_) (ih (i+1) (by omega) (by omega))
  ·exact⟨AV.le_refl _,AV.le_refl _,AV.le_of_eq (congrArg intV hw1),trivial⟩
  ·exact⟨ABlk.le_refl _,ABlk.le_refl _,gnQ_snoc rfl,trivial⟩
 ·obtain rfl:i=s.n:=by omega
  have h':¬ ((s.n:Nat):Int)<(s.n:Int):=by omega
  conv=>whnf
  refine two_false (decide_eq_false h') ?_
  conv=>whnf
  exact hr _ _ (rgV s) [] _ (Wk1.fzAll (.box 1 _ 0 _ [.sl 5 s.n (gnW s.f),.sl 1 s.ps.length (kidF s.ps)] rfl rfl fun j hj hj'=>(by
   rcases j with _|_|j
   ·exact .sl 2 _ 5 0 s.n 0 s.n _ _ rfl (Nat.zero_add _) (fun i _=>(by rw [Nat.zero_add];rfl)) fun i _ j hj hj'=>(by
     have hj5:j<5:=hj'
     have e:(pvs (gnW s.f (0+i)))[j]'hj=.p ((gnW s.f i)[j]'hj'):=by
      simp only [Nat.zero_add]
      rcases j with _|_|_|_|_|j
      ·rfl
      ·rfl
      ·rfl
      ·rfl
      ·rfl
      ·omega
     rw [e];exact .p _)
   ·exact .p _
   ·exact absurd (show j+1+1<2 from hj) (by omega)))) rfl rfl trivial hk
theorem way_rng {g:PG} (hr:∀ i,i<g.n→∀ j∈g.nx i,j<g.n) {i:Nat} {l:List Nat} (h:Go.Ru.Way g i l):i<g.n→∀ x∈l,x<g.n:=by
 induction h with
 | stop he=>intro hi x hx;rw [List.mem_singleton.1 hx];exact hi
 | go hj h ih =>
  intro hi x hx
  rcases List.mem_cons.1 hx with rfl|hx
  ·exact hi
  ·exact ih (hr _ hi _ hj) x hx
theorem frameN11 {G:AG} (hG:GOk Tryz.prog G) (n:Nat) {f:FuncId} {args:List AV} {K:List ABlk} {k:AO→List ABlk→Prop} (hcl:AV.dns K.length args=args)
  (h:∀ Q:AO→List ABlk→Prop,(∀ v K' v' K2,Wk1 0 v K' v' K2→nlK K2→k (.ret (v'.up K.length)) (K++upsB K.length K2)→Q (.ret v) K')→acall1 T0 G n f args [] Q):ACalls Tryz.prog f args K k:=by
 have e:ACalls Tryz.prog f args (K++[]) k:=by
  refine ACalls.shift (n:=K.length) (Y:=K) (K1:=[]) rfl trivial ?_
  rw [hcl]
  refine ACalls.post (k:=fun ao K1=>∃ v v' K2,ao=.ret v∧Wk1 0 v K1 v' K2∧nlK K2∧k (.ret (v'.up K.length)) (K++upsB K.length K2)) (call_ok hG n f args [] _ (h _ ?_)) ?_
  ·intro v K' v' K2 h1 h2 h3
   exact⟨v,v',K2,rfl,h1,h2,h3⟩
  ·rintro ao K1 ⟨v,v',K2,rfl,h1,h2,h3⟩
   exact⟨v',K2,h1,h2,h3⟩
 rwa [List.append_nil] at e
def qL (s:BSt) (proc:Int) (n:Nat):ABlk:=.box 93 [rgV s,intV proc,.slr 1 0 0 n]
theorem fzq {s:BSt} {N:List Int} {proc:Int} {kb:Nat} {t:List (Nat×AV)}:Le kb ⟨t,[qL s proc N.length,intR 0 N]⟩ ⟨t,qK s N proc++[ABlk.dead]⟩ :=
 Le.fzx (r:=1) (kidF N) rfl (fun _ _=>rfl) (show fsxK 1 1 N.length (kidF N) [qL s proc N.length,ABlk.dead] [qB s N proc,ABlk.dead] from ⟨.inl (.inr ⟨_,_,_,rfl,rfl,.inl (AV.le_refl _),.inl (AV.le_refl _),.inr ⟨rfl,rfl⟩,trivial⟩),.inl (.inl (ABlk.le_refl _)),trivial⟩)
def cRNew:AC:=fun args K k=>∃ s proc,args=[rgV s,intV proc]∧s.n<4096∧(∀ x,x<s.n→(s.f x).nx.length<1000)∧(GoodP s proc→k (.ret (.tup [.ptr (0+K.length) 0 1 0 0,intV 0])) (K++qK s (ndsP s.f proc s.n) proc))∧(¬ GoodP s proc→k (.ret (.tup [.p .nilp,intV 1])) K)
def gQw:AG:=gput 52 cWays (gput 53 cAmong11 (gput 54 cEnded g0))
theorem gQw_ok:GOk Tryz.prog gQw:=gput_ok qways_ok (gput_ok qamong_ok (gput_ok ended_ok g0_ok))
theorem qnew_ok:COk 26 cRNew:=by
 rintro args K k ⟨s,proc,rfl,hn,hsh,hk1,hk0⟩
 obtain⟨N,hNe⟩:∃ N,ndsP s.f proc s.n=N:=⟨_,rfl⟩
 rw [hNe] at hk1
 have hNl:N.length≤s.n:=by rw [← hNe];exact ndsP_len _ _ _
 refine frameN11 gQw_ok 19 rfl fun Q hr=>?_
 conv=>whnf
 refine two_dec (fun h0=>?_) (fun h0=>?_)
 ·have h0:proc<0:=h0
  have hk:=hk0 fun h=>by have:=h.lo;omega
  conv=>whnf
  exact hr _ _ (.tup [.p .nilp,intV 1]) [] (Wk1.refl _ _ _) trivial ((List.append_nil K).symm▸hk)
 have h0:¬ proc<0:=h0
 conv=>whnf
 refine two_dec (fun h1=>?_) (fun h1=>?_)
 ·have h1:proc≥(s.ps.length:Int):=h1
  have hk:=hk0 fun h=>by have:=h.hi;omega
  conv=>whnf
  exact hr _ _ (.tup [.p .nilp,intV 1]) [] (Wk1.refl _ _ _) trivial ((List.append_nil K).symm▸hk)
 have h1:¬ proc≥(s.ps.length:Int):=h1
 conv=>whnf
 refine loop_nil (ι:=Nat) 3 1 (fun i=>[intV (([]:List Int).getD i 0)]) (fun i=>⟨[(0,rgV s),(1,intV proc),(6,.ptr 0 0 1 0 0),(7,intV i)],[qL s proc (ndsP s.f proc i).length,intR 0 (ndsP s.f proc i)]⟩)
  (fun i=>i≤s.n) (fun i=>s.n - i) 0 [qL s proc 0]
  rfl ⟨.inl (AV.le_refl _),.inl (AV.le_refl _),.inl (AV.le_refl _),.inl (AV.le_refl _),trivial⟩
  ⟨.inr ⟨_,_,_,rfl,rfl,.inl (AV.le_refl _),.inl (AV.le_refl _),.inr ⟨rfl,rfl⟩,trivial⟩,trivial⟩ rfl (Nat.zero_le _) ?_
 rintro Y hle i hi ih
 by_cases h:i<s.n
 ·have h':(i:Int)<(s.n:Int):=by omega
  have hw1:=wzz (i:=i) (by omega)
  have hll:=ndsP_len s.f proc i
  conv=>whnf
  refine two_true (decide_eq_true h') ?_
  conv=>whnf
  refine Chk.mk ⟨Int.natCast_nonneg i,h',rfl⟩ ?_
  conv=>whnf
  refine two_eq (fun hp=>?_) (fun hp=>?_)
  ·have hp:(s.f i).pr=proc:=hp
   have hnd:ndsP s.f proc (i+1)=ndsP s.f proc i++[(i:Int)]:=by simp only [ndsP];rw [if_pos hp]
   have hnl:(ndsP s.f proc (i+1)).length=(ndsP s.f proc i).length+1:=by rw [hnd];simp
   have hbox:qL s proc ((ndsP s.f proc i).length+1)=qL s proc (ndsP s.f proc (i+1)).length:=by rw [hnl]
   conv=>whnf
   refine Chk.mk ⟨rfl,rfl,rfl,allLt_ok ⟨trivial,rfl⟩⟩ ?_
   conv=>whnf
   refine Chk.mk ⟨rfl,rfl,rfl,rfl,(by show ((ndsP s.f proc i).length+1)*8≤140737488355328;omega),(by show (ndsP s.f proc i).length+1≤9223372036854775807;omega)⟩ ?_
   conv=>whnf
   refine hle _ _ (Le.cutEnv 2 rfl rfl ⟨rfl,catI_cl (fun _ _=>rfl) (oneI_cl rfl),trivial⟩ ?_ ?_) (ih (i+1) (by omega) (by omega))
   ·exact⟨AV.le_refl _,AV.le_refl _,AV.le_refl _,AV.le_of_eq (congrArg intV hw1),trivial⟩
   ·exact⟨ABlk.le_of_eq hbox,hnd▸intR_one rfl rfl,trivial⟩
  ·have hp:(s.f i).pr≠proc:=hp
   have hnd:ndsP s.f proc (i+1)=ndsP s.f proc i:=by simp only [ndsP];rw [if_neg hp]
   conv=>whnf
   refine hle _ _ (Le.cutEnv 2 rfl rfl ⟨rfl,fun _ _=>rfl,trivial⟩ ?_ ?_) (ih (i+1) (by omega) (by omega))
   ·exact⟨AV.le_refl _,AV.le_refl _,AV.le_refl _,AV.le_of_eq (congrArg intV hw1),trivial⟩
   ·exact hnd▸lesK.refl _
 obtain rfl:i=s.n:=by omega
 have h':¬ ((s.n:Nat):Int)<(s.n:Int):=by omega
 clear ih hle
 conv=>whnf
 refine two_false (decide_eq_false h') ?_
 rw [hNe]
 conv=>whnf
 have hmem:=fun y=>posL_mem (y:=y) (hNe▸ndsP_nodup s.f proc s.n:N.Nodup)
 have hat:∀ i,i<N.length→∃ x:Nat,N.getD i 0=(x:Int)∧x<s.n:=fun i hi=>by
  have:N.getD i 0∈ndsP s.f proc s.n:=by rw [hNe,List.getD_eq_getElem?_getD,List.getElem?_eq_getElem hi];exact List.getElem_mem hi
  obtain⟨x,h1,h2,_⟩:=ndsP_mem.1 this
  exact⟨x,h1,h2⟩
 refine LoopW.le fzq ?_
 refine loop_up (ι:=Nat) [0,6] (fun i=>[(8,intV i)]) (fun _=>[]) (fun i=>i≤N.length∧∀ j,j<i→inP s.f N j) (fun i=>N.length - i) 0 ⟨AV.le_refl _,trivial⟩ trivial ⟨Nat.zero_le _,fun j hj=>absurd hj (Nat.not_lt_zero _)⟩ ?_
 rintro Y hle i ⟨hi,hin⟩ ih
 by_cases h:i<N.length
 ·have h':(i:Int)<(N.length:Int):=by omega
  have hw1:=wzz (i:=i) (by omega)
  obtain⟨y,hy,hyn⟩:=hat i h
  have hyn':(y:Int)<(s.n:Int):=by omega
  have hkid:kidF N (Int.toNat (i:Int))=[.int .i64 (y:Int)]:=by rw [Int.toNat_natCast];unfold kidF;rw [hy]
  obtain⟨l,hl⟩:∃ l,wayN (s.f y)=l:=⟨_,rfl⟩
  have hll:l.length≤1001:=by
   have:=hsh y hyn
   rw [← hl];unfold wayN;split<;>simp<;>omega
  conv=>whnf
  refine two_true (decide_eq_true h') ?_
  conv=>whnf
  refine Chk.mk ⟨Int.natCast_nonneg i,h',rfl⟩ ?_
  conv in (kidF N _)=>rw [hkid]
  conv=>whnf
  refine Chk.mk ⟨Int.natCast_nonneg y,hyn',rfl⟩ ?_
  conv=>whnf
  repeat ((refine And.intro ?_ ?_);(focus ((conv=>whnf);first|done|(refine Chk.mk ⟨Int.natCast_nonneg y,hyn',rfl⟩ ?_;conv=>whnf)|(refine Chk.mk ⟨Int.natCast_nonneg i,h',rfl⟩ ?_;(conv in (kidF N _)=>rw [hkid]);(conv=>whnf);first|done|(refine Chk.mk ⟨Int.natCast_nonneg y,hyn',rfl⟩ ?_;conv=>whnf))));conv=>whnf)
  refine⟨s.f y,l,rfl,by have:=hsh y hyn;omega,hl,?_⟩
  conv=>whnf
  refine loop_up (ι:=Nat) [0,6,8,9] (fun k=>[(10,intV k)]) (fun _=>[]) (fun k=>k≤l.length∧∀ t,t<k→l.getD t 0∈N) (fun k=>l.length - k) 0 ⟨AV.le_refl _,trivial⟩ trivial ⟨Nat.zero_le _,fun t ht=>absurd ht (Nat.not_lt_zero _)⟩ ?_
  rintro Z hlz t ⟨ht,hln⟩ ihz
  by_cases h2:t<l.length
  ·have h2':(t:Int)<(l.length:Int):=by omega
   have hw2:=wzz (i:=t) (by omega)
   conv=>whnf
   refine two_true (decide_eq_true h2') ?_
   conv=>whnf
   refine Chk.mk ⟨Int.natCast_nonneg t,h2',rfl⟩ ?_
   conv=>whnf
   repeat ((refine And.intro ?_ ?_);(focus ((conv=>whnf);first|done|(refine Chk.mk ⟨Int.natCast_nonneg t,h2',rfl⟩ ?_;conv=>whnf)));conv=>whnf)
   refine⟨N,l.getD t 0,_,rfl,by omega,rfl,?_⟩
   conv=>whnf
   refine two_not (fun h3=>?_) (fun h3=>?_)
   ·have h3:l.getD t 0 ∉ N:=of_decide_eq_false h3
    have hk:=hk0 fun hg=>h3 (by
     have:=hg.ok.in_ i (by rw [hNe];exact h)
     rw [hNe] at this
     refine (hmem _).1 (Option.isSome_iff_exists.1 (this _ ?_))
     rw [hy,Int.toNat_natCast,hl,List.getD_eq_getElem?_getD,List.getElem?_eq_getElem h2]
     exact List.getElem_mem h2)
    conv=>whnf
    exact hr _ _ (.tup [.p .nilp,intV 1]) [] (Wk1.cut 0 (Nat.le_refl _) rfl trivial) trivial ((List.append_nil K).symm▸hk)
   have h3:l.getD t 0∈N:=of_decide_eq_true h3
   conv=>whnf
   refine hlz _ _ (Le.env ?_ ?_) (ihz (t+1) (by omega) ⟨h2,fun j hj=>(Nat.lt_succ_iff_lt_or_eq.1 hj).elim (hln j) fun e=>e▸h3⟩)
   ·skip
    repeat' (first|exact trivial|((conv=>whnf);first|exact trivial|refine⟨AV.le_refl _,?_⟩|refine⟨ABlk.le_refl _,?_⟩|(refine⟨AV.le_of_eq ?_,?_⟩;focus ((first|exact congrArg intV hw2|fail);done))|(refine⟨ABlk.le_of_eq ?_,?_⟩;focus ((first|exact congrArg intV hw2|fail);done))|fail)|fail)
   ·skip
    repeat' (first|exact trivial|((conv=>whnf);first|exact trivial|refine⟨AV.le_refl _,?_⟩|refine⟨ABlk.le_refl _,?_⟩|fail)|fail)
  ·obtain rfl:t=l.length:=by omega
   have h2':¬ ((l.length:Nat):Int)<(l.length:Int):=by omega
   have hii:inP s.f N i:=fun z hz=>by
    rw [hy,Int.toNat_natCast,hl] at hz
    obtain⟨t,ht,e⟩:=List.getElem_of_mem hz
    have:=hln t ht
    rw [List.getD_eq_getElem?_getD,List.getElem?_eq_getElem ht,e] at this
    exact Option.isSome_iff_exists.2 ((hmem z).2 this)
   conv=>whnf
   refine two_false (decide_eq_false h2') ?_
   conv=>whnf
   refine hle _ _ (Le.env ?_ ?_) (ih (i+1) (by omega) ⟨h,fun j hj=>(Nat.lt_succ_iff_lt_or_eq.1 hj).elim (hin j) fun e=>e▸hii⟩)
   ·skip
    repeat' (first|exact trivial|((conv=>whnf);first|exact trivial|refine⟨AV.le_refl _,?_⟩|refine⟨ABlk.le_refl _,?_⟩|(refine⟨AV.le_of_eq ?_,?_⟩;focus ((first|exact congrArg intV hw1|fail);done))|(refine⟨ABlk.le_of_eq ?_,?_⟩;focus ((first|exact congrArg intV hw1|fail);done))|fail)|fail)
   ·skip
    repeat' (first|exact trivial|((conv=>whnf);first|exact trivial|refine⟨AV.le_refl _,?_⟩|refine⟨ABlk.le_refl _,?_⟩|fail)|fail)
 ·obtain rfl:i=N.length:=by omega
  have h':¬ ((N.length:Nat):Int)<(N.length:Int):=by omega
  have hns:QOk s N:=⟨⟨hNe▸ndsP_nodup s.f proc s.n,hat,hin⟩,hn,by omega,hsh⟩
  clear ih hle
  conv=>whnf
  refine two_false (decide_eq_false h') ?_
  conv=>whnf
  refine loop_up (ι:=Nat) [6] (fun i=>[(11,intV i)]) (fun _=>[]) (fun i=>i≤N.length∧∀ j,j<i→Live (pgN s.f N) j) (fun i=>N.length - i) 0 ⟨AV.le_refl _,trivial⟩ trivial ⟨Nat.zero_le _,fun j hj=>absurd hj (Nat.not_lt_zero _)⟩ ?_
  rintro Y hle i ⟨hi,hlv⟩ ih
  by_cases h:i<N.length
  ·have h':(i:Int)<(N.length:Int):=by omega
   have hw1:=wzz (i:=i) (by omega)
   obtain⟨y,hy,hyn⟩:=hat i h
   have hkid:kidF N (Int.toNat (i:Int))=[.int .i64 (y:Int)]:=by rw [Int.toNat_natCast];unfold kidF;rw [hy]
   have hfl:FreeW (pgN s.f N) N (-1) i↔Live (pgN s.f N) i:=⟨fun ⟨l,h1,_⟩=>⟨l,h1⟩,fun ⟨l,h1⟩=>⟨l,h1,fun x hx e=>by
    by_cases hxn:x<N.length
    ·obtain⟨z,hz,_⟩:=hat x hxn
     omega
    ·exact absurd (way_rng (pgN_rng hin) h1 h x hx) hxn⟩⟩
   conv=>whnf
   refine two_true (decide_eq_true h') ?_
   conv=>whnf
   refine Chk.mk ⟨Int.natCast_nonneg i,h',rfl⟩ ?_
   conv in (kidF N _)=>rw [hkid]
   conv=>whnf
   refine⟨s,N,proc,i,(y:Int),-1,_,rfl,rfl,hns,h,hy,fun b hb=>?_⟩
   have hb:=hb.trans hfl
   conv=>whnf
   refine two_not (fun h3=>?_) (fun h3=>?_)
   ·have h3:b=false:=h3
    have hk:=hk0 fun hg=>by
     have:=hg.ok.live i (by rw [hNe];exact h)
     rw [hNe] at this
     rw [hb.2 this] at h3;cases h3
    conv=>whnf
    exact hr _ _ (.tup [.p .nilp,intV 1]) [] (Wk1.cut 0 (Nat.le_refl _) rfl trivial) trivial ((List.append_nil K).symm▸hk)
   have h3:b=true:=h3
   conv=>whnf
   refine hle _ _ (Le.env ?_ ?_) (ih (i+1) (by omega) ⟨h,fun j hj=>(Nat.lt_succ_iff_lt_or_eq.1 hj).elim (hlv j) fun e=>e▸hb.1 h3⟩)
   ·skip
    repeat' (first|exact trivial|((conv=>whnf);first|exact trivial|refine⟨AV.le_refl _,?_⟩|refine⟨ABlk.le_refl _,?_⟩|(refine⟨AV.le_of_eq ?_,?_⟩;focus ((first|exact congrArg intV hw1|fail);done))|(refine⟨ABlk.le_of_eq ?_,?_⟩;focus ((first|exact congrArg intV hw1|fail);done))|fail)|fail)
   ·skip
    repeat' (first|exact trivial|((conv=>whnf);first|exact trivial|refine⟨AV.le_refl _,?_⟩|refine⟨ABlk.le_refl _,?_⟩|fail)|fail)
  ·obtain rfl:i=N.length:=by omega
   have h':¬ ((N.length:Nat):Int)<(N.length:Int):=by omega
   have hg:GoodP s proc:=⟨by omega,by omega,by rw [hNe];exact⟨hin,hlv⟩⟩
   have hk:=hk1 hg
   conv=>whnf
   refine two_false (decide_eq_false h') ?_
   conv=>whnf
   exact hr _ _ (.tup [.ptr 0 0 1 0 0,intV 0]) (qK s N proc) (Wk1.cut 1 (Nat.zero_le _) rfl ⟨rfl,trivial⟩) ⟨trivial,trivial⟩ hk
def cRCommonS:AC:=fun args K k=>∃ s proc M a b v b0,args=[.ptr 1 0 1 0 0,intV a,intV b]∧K=b0::qK s M.N proc∧QM s proc M∧commonM M a b=v∧k (.ret (intV v)) (b0::qK s M.N proc)
theorem qcommonS_ok:COk 29 cRCommonS:=by
 rintro args K k ⟨s,proc,M,a,b,v,b0,rfl,rfl,hq,hv,hk⟩
 exact ACalls.shift (n:=1) (Y:=[b0]) (K1:=qK s M.N proc) rfl ⟨trivial,trivial⟩ (qcommon_ok _ _ _ ⟨s,proc,M,a,b,v,[],rfl,rfl,hq,hv,⟨trivial,trivial⟩,hk⟩)
def gPz:AG:=gput 12 cShown7 (gput 13 cSmG (gput 14 cPoNew (gput 15 cNodes (gput 20 cAmong11 (gput 25 cPasses (gput 28 cPoCommon (gput 27 cAs (gput 26 cRNew (gput 29 cRCommonS g0)))))))))
theorem gPz_ok:GOk Tryz.prog gPz:=gput_ok shown11_ok (gput_ok small11_ok (gput_ok poNew_ok (gput_ok nodes_ok (gput_ok among11_ok (gput_ok passes_ok (gput_ok poCommon_ok (gput_ok as_ok (gput_ok qnew_ok (gput_ok qcommonS_ok g0_ok)))))))))
theorem common_calls (s:BSt) (proc a b:Int) (K:List ABlk) (k:AO→List ABlk→Prop) (hk:k (.ret (.p (.bool true))) K):ACalls Tryz.prog 7 [graphW s,intV proc,intV a,intV b] K k:=by
 refine frame0P gPz_ok 19 rfl fun Q hr=>?_
 conv=>whnf
 refine⟨rfl,?_⟩
 conv=>whnf
 refine⟨s,rfl,fun hs=>?_,?_⟩
 rotate_left
 ·conv=>whnf
  exact hr _ _ rfl hk
 have hn:s.n<4096:=by have:=hs.n;omega
 have hsh:∀ x,x<s.n→(s.f x).nx.length<1000:=fun x hx=>by have:=hs.nx x hx;omega
 conv=>whnf
 refine⟨s,proc,rfl,hn,hsh,fun M hM=>?_,fun hng=>?_⟩
 rotate_left
 ·conv=>whnf
  refine⟨s,rfl,hn,?_⟩
  conv=>whnf
  refine⟨s,proc,rfl,hn,hsh,fun h=>absurd h hng,fun _=>?_⟩
  conv=>whnf
  exact hr _ _ rfl hk
 have hq:=qm_of hM hn hsh
 have hN:=hq.q.len
 conv=>whnf
 refine⟨s,rfl,hn,?_⟩
 conv=>whnf
 refine⟨s,proc,rfl,hn,hsh,fun _=>?_,fun h=>absurd hM.good h⟩
 rw [← hM.N]
 obtain⟨c,hc⟩:∃ c,commonM M a b=c:=⟨_,rfl⟩
 conv=>whnf
 refine⟨M,a,b,c,rfl,hq.k,hc,?_⟩
 conv=>whnf
 refine⟨s,proc,M,a,b,c,_,rfl,rfl,hq,hc,?_⟩
 conv=>whnf
 refine two_ne (fun h=>absurd rfl h) (fun _=>?_)
 conv=>whnf
 refine⟨M,rfl,hq.k,?_⟩
 conv=>whnf
 obtain⟨L,hL⟩:∃ L,M.N=L:=⟨_,rfl⟩
 rw [hL] at hN
 rw [hL]
 refine loop_up (ι:=Nat) [2,3,11,15,16] (fun i=>[(17,intV i)]) (fun _=>[]) (fun i=>i≤L.length) (fun i=>L.length - i) 0 ⟨AV.le_refl _,trivial⟩ trivial (Nat.zero_le _) ?_
 rintro Y hle i hi ih
 by_cases h:i<L.length
 ·have h':(i:Int)<(L.length:Int):=by omega
  have hw1:=wzz (i:=i) (by omega)
  obtain⟨z,hz⟩:∃ z,L.getD i 0=z:=⟨_,rfl⟩
  have hzn:z∈M.N:=by rw [hL,← hz,List.getD_eq_getElem?_getD,List.getElem?_eq_getElem h];exact List.getElem_mem h
  have hkid:kidF L (Int.toNat (i:Int))=[.int .i64 z]:=by rw [Int.toNat_natCast];unfold kidF;rw [hz]
  have hcz:passM M a z=true→passM M b z=true→passM M c z=true:=fun h1 h2=>hc▸common1 hM.ok hzn h1 h2
  conv=>whnf
  refine two_true (decide_eq_true h') ?_
  conv=>whnf
  refine Chk.mk ⟨Int.natCast_nonneg i,h',rfl⟩ ?_
  conv in (kidF L _)=>rw [hkid]
  conv=>whnf
  refine⟨M,a,z,_,rfl,hq.k,rfl,?_⟩
  conv=>whnf
  refine two_intro (fun h1=>?_) (fun h1=>?_)
  ·have h1:passM M a z=true:=h1
   conv=>whnf
   refine Chk.mk ⟨Int.natCast_nonneg i,h',rfl⟩ ?_
   conv in (kidF L _)=>rw [hkid]
   conv=>whnf
   refine⟨M,b,z,_,rfl,hq.k,rfl,?_⟩
   conv=>whnf
   refine two_intro (fun h2=>?_) (fun h2=>?_)
   ·have h2:passM M b z=true:=h2
    conv=>whnf
    refine Chk.mk ⟨Int.natCast_nonneg i,h',rfl⟩ ?_
    conv in (kidF L _)=>rw [hkid]
    conv=>whnf
    refine⟨M,c,z,true,rfl,hq.k,hcz h1 h2,?_⟩
    conv=>whnf
    refine hle _ _ (Le.env ?_ ?_) (ih (i+1) (by omega) (by omega))
    ·skip
     repeat' (first|exact trivial|((conv=>whnf);first|exact trivial|refine⟨AV.le_refl _,?_⟩|refine⟨ABlk.le_refl _,?_⟩|(refine⟨AV.le_of_eq ?_,?_⟩;focus ((first|exact congrArg intV hw1|fail);done))|(refine⟨ABlk.le_of_eq ?_,?_⟩;focus ((first|exact congrArg intV hw1|fail);done))|fail)|fail)
    ·skip
     repeat' (first|exact trivial|((conv=>whnf);first|exact trivial|refine⟨AV.le_refl _,?_⟩|refine⟨ABlk.le_refl _,?_⟩|fail)|fail)
   ·conv=>whnf
    refine hle _ _ (Le.env ?_ ?_) (ih (i+1) (by omega) (by omega))
    ·skip
     repeat' (first|exact trivial|((conv=>whnf);first|exact trivial|refine⟨AV.le_refl _,?_⟩|refine⟨ABlk.le_refl _,?_⟩|(refine⟨AV.le_of_eq ?_,?_⟩;focus ((first|exact congrArg intV hw1|fail);done))|(refine⟨ABlk.le_of_eq ?_,?_⟩;focus ((first|exact congrArg intV hw1|fail);done))|fail)|fail)
    ·skip
     repeat' (first|exact trivial|((conv=>whnf);first|exact trivial|refine⟨AV.le_refl _,?_⟩|refine⟨ABlk.le_refl _,?_⟩|fail)|fail)
  ·conv=>whnf
   refine hle _ _ (Le.env ?_ ?_) (ih (i+1) (by omega) (by omega))
   ·skip
    repeat' (first|exact trivial|((conv=>whnf);first|exact trivial|refine⟨AV.le_refl _,?_⟩|refine⟨ABlk.le_refl _,?_⟩|(refine⟨AV.le_of_eq ?_,?_⟩;focus ((first|exact congrArg intV hw1|fail);done))|(refine⟨ABlk.le_of_eq ?_,?_⟩;focus ((first|exact congrArg intV hw1|fail);done))|fail)|fail)
   ·skip
    repeat' (first|exact trivial|((conv=>whnf);first|exact trivial|refine⟨AV.le_refl _,?_⟩|refine⟨ABlk.le_refl _,?_⟩|fail)|fail)
 ·obtain rfl:i=L.length:=by omega
  have h':¬ ((L.length:Nat):Int)<(L.length:Int):=by omega
  conv=>whnf
  refine two_false (decide_eq_false h') ?_
  conv=>whnf
  refine⟨L,a,_,rfl,by omega,rfl,?_⟩
  conv=>whnf
  refine two_not (fun h1=>?_) (fun h1=>?_)
  ·conv=>whnf
   exact hr _ _ rfl hk
  have h1:a∈M.N:=by rw [hL];exact of_decide_eq_true h1
  conv=>whnf
  refine⟨L,b,_,rfl,by omega,rfl,?_⟩
  conv=>whnf
  refine two_not (fun h2=>?_) (fun h2=>?_)
  ·conv=>whnf
   exact hr _ _ rfl hk
  have h2:b∈M.N:=by rw [hL];exact of_decide_eq_true h2
  obtain⟨h3,h4⟩:=common2 hM.ok h1 h2
  rw [hc] at h3 h4
  conv=>whnf
  refine⟨M,a,c,true,rfl,hq.k,h3,?_⟩
  conv=>whnf
  refine⟨M,b,c,true,rfl,hq.k,h4,?_⟩
  conv=>whnf
  exact hr _ _ rfl hk
end Go.Proofs.YtcmepkfefoidcaaGreatDoor
