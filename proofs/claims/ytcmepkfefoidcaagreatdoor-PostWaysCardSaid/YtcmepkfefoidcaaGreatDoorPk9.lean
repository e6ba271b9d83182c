/-
  On the way to what follows: part 9 of 0.
-/
import Derived.Test.YtcmepkfefoidcaaGreatDoorPk8
set_option linter.unusedVariables false
set_option linter.unusedSimpArgs false
namespace Go.Proofs.YtcmepkfefoidcaaGreatDoor
open Go.AE Go.Ru Go.Bi
set_option maxRecDepth 100000
set_option maxHeartbeats 400000
structure PMk (M:PM):Prop where
 ok:PMok M
 n:M.N.length<4096
theorem plP_some {N:List Int} {y:Int} {i:Nat} (h:posL y N=some i):plP N (.i .i64 y)=some (.int .i64 ((i:Nat):Int)):=by simp [plP,h]
theorem plP_none {N:List Int} {y:Int} (h:posL y N=none):plP N (.i .i64 y)=none:=by simp [plP,h]
def gPo:AG:=gput 46 cCloneW (gput 51 cHas g0)
theorem gPo_ok:GOk Tryz.prog gPo:=gput_ok cloneW_ok (gput_ok has_ok g0_ok)
def cNodes:AC:=fun args K k=>∃ M,args=[postV M]∧PMk M∧k (.ret (intsV M.N)) K
theorem nodes_ok:COk 15 cNodes:=by
 rintro args K k ⟨M,rfl,hM,hk⟩
 refine frameZ (K0:=[]) (X:=K) gPo_ok 19 rfl trivial fun Q hr=>?_
 have hn:=hM.n
 conv=>whnf
 refine⟨M.N,rfl,by omega,?_⟩
 conv=>whnf
 exact hr _ _ (intsV M.N) [] _ (Wk1.fzL rfl rfl) rfl rfl trivial hk
def cPasses:AC:=fun args K k=>∃ M a b v,args=[postV M,intV a,intV b]∧PMk M∧passM M a b=v∧k (.ret (.p (.bool v))) K
theorem passes_ok:COk 25 cPasses:=by
 rintro args K k ⟨M,a,b,v,rfl,hM,rfl,hk⟩
 refine frame0P gPo_ok 19 rfl fun Q hr=>?_
 have hn:=hM.n
 conv=>whnf
 refine two_eq (fun ha=>?_) (fun ha=>?_)
 ·have ha:a=-1:=ha
  rw [show passM M a b=(b==-1) by unfold passM;rw [if_pos ha]] at hk
  conv=>whnf
  exact hr _ _ rfl hk
 have ha:a≠-1:=ha
 cases hpa:posL a M.N with
 | none =>
  rw [show passM M a b=false by unfold passM;rw [if_neg ha,hpa]] at hk
  conv=>whnf
  refine MGet.pv_none (plP_none hpa) ?_
  conv=>whnf
  exact hr _ _ rfl hk
 | some i =>
  have hi:=posL_some hpa
  have hi0:(0:Int)≤(i:Int):=by omega
  have hil:(i:Int)<(M.N.length:Int):=by omega
  conv=>whnf
  refine MGet.pv_some (plP_some hpa) ?_
  conv=>whnf
  refine two_eq (fun hb=>?_) (fun hb=>?_)
  ·have hb:b=-1:=hb
   rw [show passM M a b=true by unfold passM;rw [if_neg ha,hpa];simp only [if_pos hb]] at hk
   conv=>whnf
   exact hr _ _ rfl hk
  have hb:b≠-1:=hb
  cases hpb:posL b M.N with
  | none =>
   rw [show passM M a b=false by unfold passM;rw [if_neg ha,hpa];simp only [if_neg hb,hpb]] at hk
   conv=>whnf
   refine MGet.pv_none (plP_none hpb) ?_
   conv=>whnf
   exact hr _ _ rfl hk
  | some j =>
   have hj:=posL_some hpb
   rw [show passM M a b=M.P i j by unfold passM;rw [if_neg ha,hpa];simp only [if_neg hb,hpb]] at hk
   conv=>whnf
   refine MGet.pv_some (plP_some hpb) ?_
   conv=>whnf
   refine Chk.mk ⟨hi0,hil,rfl⟩ ?_
   conv=>whnf
   refine⟨M.P i,j,rfl,by omega,?_⟩
   conv=>whnf
   exact hr _ _ rfl hk
def cPoNext:AC:=fun args K k=>∃ M a v,args=[postV M,intV a]∧PMk M∧nextM M a=v∧k (.ret (intV v)) K
theorem poNext_ok:COk 19 cPoNext:=by
 rintro args K k ⟨M,a,v,rfl,hM,rfl,hk⟩
 refine frame0P gPo_ok 19 rfl fun Q hr=>?_
 have hn:=hM.n
 cases hpa:posL a M.N with
 | none =>
  rw [show nextM M a=-2 by unfold nextM;rw [hpa]] at hk
  conv=>whnf
  refine MGet.pv_none (plP_none hpa) ?_
  conv=>whnf
  exact hr _ _ rfl hk
 | some i =>
  have hi:=posL_some hpa
  have hi0:(0:Int)≤(i:Int):=by omega
  have hil:(i:Int)<(M.N.length:Int):=by omega
  cases hnx:M.nx i with
  | none =>
   have hv:nxI (M.nx i)=-1:=by rw [hnx];rfl
   rw [show nextM M a=-1 by unfold nextM;rw [hpa];simp only [hnx]] at hk
   conv=>whnf
   refine MGet.pv_some (plP_some hpa) ?_
   conv=>whnf
   refine Chk.mk ⟨hi0,hil,rfl⟩ ?_
   conv=>whnf
   refine two_eq (fun _=>?_) (fun h=>absurd hv h)
   conv=>whnf
   exact hr _ _ rfl hk
  | some j =>
   obtain⟨hjn,_⟩:=hM.ok.nxt.lt hM.ok.pass hM.ok.ok (i:=i) (by have:=hM.ok.len;omega) hnx
   have hjl:j<M.N.length:=by have:=hM.ok.len;omega
   have hv:nxI (M.nx i)=(j:Int):=by rw [hnx];rfl
   have hv0:0≤nxI (M.nx i):=by rw [hv];omega
   have hv1:nxI (M.nx i)<(M.N.length:Int):=by rw [hv];omega
   have hvt:(nxI (M.nx i)).toNat=j:=by rw [hv];rfl
   rw [show nextM M a=M.N.getD (nxI (M.nx i)).toNat 0 by unfold nextM;rw [hpa,hvt];simp only [hnx]] at hk
   conv=>whnf
   refine MGet.pv_some (plP_some hpa) ?_
   conv=>whnf
   refine Chk.mk ⟨hi0,hil,rfl⟩ ?_
   conv=>whnf
   refine two_eq (fun h=>absurd (hv.symm.trans h) (by omega)) (fun _=>?_)
   conv=>whnf
   refine Chk.mk ⟨hi0,hil,rfl⟩ ?_
   conv=>whnf
   refine Chk.mk ⟨hv0,hv1,rfl⟩ ?_
   conv=>whnf
   exact hr _ _ rfl hk
structure ChC where
 o:Option Nat
 m:Nat
 l:List Int
def chRest (M:PM) (o:Option Nat) (m:Nat):List Int:=match o with
 | none=>[]
 | some i=>(chainF M.nx m i).map fun k=>M.N.getD k 0
structure ChI (M:PM) (a:Int) (c:ChC):Prop where
 e:chainM M a=c.l++chRest M c.o c.m
 n:∀ i,c.o=some i→i<M.g.n∧cntP M.g M.P i<c.m
 l:c.l.length+c.m≤M.g.n+1
def cChain:AC:=fun args K k=>∃ M a,args=[postV M,intV a]∧PMk M∧k (.ret (intsV (chainM M a))) K
theorem chain_ok:COk 16 cChain:=by
 rintro args K k ⟨M,a,rfl,hM,hk⟩
 refine frameZ (K0:=[]) (X:=K) gPo_ok 19 rfl trivial fun Q hr=>?_
 have hn:=hM.n
 have hgl:=hM.ok.len
 cases hpa:posL a M.N with
 | none =>
  rw [show chainM M a=[] by unfold chainM;rw [hpa]] at hk
  conv=>whnf
  refine MGet.pv_none (plP_none hpa) ?_
  conv=>whnf
  refine loop_up (ι:=Unit) [5,7] (fun _=>[]) (fun _=>[]) (fun _=>True) (fun _=>0) () trivial trivial trivial ?_
  rintro Y hle _ _ ih
  conv=>whnf
  exact hr _ _ (intsV []) [] _ (Wk1.le (AV.nils_le _ _) (lesK.refl _)) rfl rfl trivial hk
 | some i0 =>
  have hi0:=posL_some hpa
  conv=>whnf
  refine MGet.pv_some (plP_some hpa) ?_
  conv=>whnf
  refine loop_nil (ι:=ChC) 3 1 (fun i=>[intV (([]:List Int).getD i 0)]) (fun c=>⟨[(0,postV M),(5,.slr 0 0 0 c.l.length),(6,intV (nxI c.o)),(7,.p (.bool true))],[intR 0 c.l]⟩) (ChI M a) (fun c=>match c.o with|none=>0|some _=>c.m) ⟨some i0,M.g.n+1,[]⟩ []
   rfl ⟨.inl (AV.le_refl _),.inr ⟨rfl,rfl⟩,.inl (AV.le_refl _),.inl (AV.le_refl _),trivial⟩ trivial rfl ⟨(by unfold chainM;rw [hpa];rfl),(fun i e=>by injection e with e;subst e;exact⟨by omega,PMok.cnt _⟩),(by simp)⟩ ?_
  rintro Y hle ⟨o,m,l⟩ ⟨he,hc,hl⟩ ih
  cases o with
  | none =>
   have he:chainM M a=l:=by rw [he];simp [chRest]
   rw [he] at hk
   conv=>whnf
   exact hr _ _ (intsV l) [] _ (Wk1.fzL rfl rfl) rfl rfl trivial hk
  | some i =>
   obtain⟨hin,hcm⟩:=hc i rfl
   replace hl:l.length+m≤M.g.n+1:=hl
   replace hcm:cntP M.g M.P i<m:=hcm
   have hi0:(0:Int)≤(i:Int):=by omega
   have hil:(i:Int)<(M.N.length:Int):=by omega
   have hne:((i:Nat):Int)≠-1:=by omega
   obtain⟨m,rfl⟩:∃ m',m=m'+1:=⟨m - 1,by omega⟩
   conv=>whnf
   refine Chk.mk ⟨hi0,hil,rfl⟩ ?_
   conv=>whnf
   refine Chk.mk ⟨rfl,rfl,rfl,allLt_ok ⟨trivial,rfl⟩⟩ ?_
   conv=>whnf
   refine Chk.mk ⟨rfl,rfl,rfl,rfl,(by show (l.length+1)*8≤140737488355328;omega),(by show l.length+1≤9223372036854775807;omega)⟩ ?_
   conv=>whnf
   refine Chk.mk ⟨hi0,hil,rfl⟩ ?_
   conv=>whnf
   refine hle _ _ (Le.cutEnv 1 rfl rfl ⟨catI_cl (fun _ _=>rfl) (oneI_cl rfl),trivial⟩ ?_ ?_) (ih ⟨M.nx i,m,l++[M.N.getD i 0]⟩ ?_ ⟨?_,?_,?_⟩)
   ·exact⟨AV.le_refl _,AV.le_of_eq (show AV.slr 0 0 0 (l.length+1)=.slr 0 0 0 (l++[M.N.getD i 0]).length by simp),AV.le_refl _,AV.le_refl _,trivial⟩
   ·exact⟨intR_one rfl rfl,trivial⟩
   ·show (match M.nx i with|none=>0|some _=>m)<m+1
    split<;>omega
   ·rw [he]
    cases hnx:M.nx i with
    | none=>simp [chRest,chainF,hnx]
    | some j=>simp [chRest,chainF,hnx]
   ·intro j hj
    obtain⟨h1,h2⟩:=hM.ok.nxt.lt hM.ok.pass hM.ok.ok hin hj
    exact⟨h1,by show cntP M.g M.P j<m;omega⟩
   ·show (l++[M.N.getD i 0]).length+m≤M.g.n+1
    rw [List.length_append,List.length_singleton];omega
theorem chain_len {M:PM} (hM:PMk M) (a:Int):(chainM M a).length≤4097:=by
 have hn:=hM.n
 have hgl:=hM.ok.len
 have key:∀ m i,(chainF M.nx m i).length≤m:=by
  intro m
  induction m with
  | zero=>intro i;simp [chainF]
  | succ m ih =>
   intro i
   simp only [chainF,List.length_cons]
   cases M.nx i with
   | none=>simp
   | some k=>simp only;have:=ih k;omega
 unfold chainM
 cases posL a M.N with
 | none=>simp
 | some i=>simp only [List.length_map];have:=key (M.g.n+1) i;omega
def cContI:AC:=fun args K k=>∃ l n b,args=[intsV l,intV n]∧List.length l<1000000∧decide (n∈l)=b∧k (.ret (.p (.bool b))) K
theorem contI_ok:COk 55 cContI:=by
 rintro args K k ⟨l,n,b,rfl,hl,rfl,hk⟩
 refine frame0P g0_ok 19 rfl fun Q hr=>?_
 conv=>whnf
 refine loop_up (ι:=Nat) [0,1,7] (fun i=>[(8,intV i)]) (fun _=>[]) (fun i=>i≤l.length∧n ∉ l.take i) (fun i=>l.length - i) 0 ⟨AV.le_refl _,trivial⟩ trivial ⟨Nat.zero_le _,by simp⟩ ?_
 rintro Y hle i ⟨hi,hni⟩ ih
 by_cases h:i<l.length
 ·have hw1:=wzz (i:=i) (by omega)
  have h':(i:Int)<(l.length:Int):=by omega
  have e1:l.getD i 0=l[i]:=by simp [h]
  have htk:l.take (i+1)=l.take i++[l.getD i 0]:=by rw [List.take_add_one,e1,List.getElem?_eq_getElem h];rfl
  conv=>whnf
  refine two_true (decide_eq_true h') ?_
  conv=>whnf
  refine Chk.mk ⟨Int.natCast_nonneg i,h',rfl⟩ ?_
  conv=>whnf
  refine two_eq (fun h2=>?_) (fun h2=>?_)
  ·have h2:n=l.getD i 0:=h2
   have hm:n∈l:=by rw [h2,e1];exact List.getElem_mem h
   rw [decide_eq_true hm] at hk
   conv=>whnf
   exact hr _ _ rfl hk
  ·have h2:n≠l.getD i 0:=h2
   conv=>whnf
   refine hle _ _ (Le.env ?_ ?_) (ih (i+1) (by omega) ⟨by omega,by rw [htk];simp only [List.mem_append,List.mem_cons,List.not_mem_nil,or_false,not_or];exact⟨hni,h2⟩⟩)
   ·skip
    repeat' (first|exact trivial|((conv=>whnf);first|exact trivial|refine⟨AV.le_refl _,?_⟩|refine⟨ABlk.le_refl _,?_⟩|(refine⟨AV.le_of_eq ?_,?_⟩;focus ((first|exact congrArg intV hw1|fail);done))|(refine⟨ABlk.le_of_eq ?_,?_⟩;focus ((first|exact congrArg intV hw1|fail);done))|fail)|fail)
   ·skip
    repeat' (first|exact trivial|((conv=>whnf);first|exact trivial|refine⟨AV.le_refl _,?_⟩|refine⟨ABlk.le_refl _,?_⟩|fail)|fail)
 ·obtain rfl:i=l.length:=by omega
  have h':¬ ((l.length:Nat):Int)<(l.length:Int):=by omega
  rw [List.take_length] at hni
  rw [decide_eq_false hni] at hk
  conv=>whnf
  refine two_false (decide_eq_false h') ?_
  conv=>whnf
  exact hr _ _ rfl hk
def gPc:AG:=gput 16 cChain (gput 55 cContI g0)
theorem gPc_ok:GOk Tryz.prog gPc:=gput_ok chain_ok (gput_ok contI_ok g0_ok)
def cPoDepth:AC:=fun args K k=>∃ M a,args=[postV M,intV a]∧PMk M∧k (.ret (intV ((chainM M a).length:Nat))) K
theorem poDepth_ok:COk 17 cPoDepth:=by
 rintro args K k ⟨M,a,rfl,hM,hk⟩
 refine frame0P gPc_ok 19 rfl fun Q hr=>?_
 conv=>whnf
 refine⟨M,a,rfl,hM,?_⟩
 conv=>whnf
 exact hr _ _ rfl hk
end Go.Proofs.YtcmepkfefoidcaaGreatDoor
namespace Go.Proofs.YtcmepkfefoidcaaGreatDoor
open Go.AE Go.Ru
set_option maxRecDepth 100000
set_option maxHeartbeats 400000
def cAmong11:AC:=fun args K k=>∃ l n b,args=[intsV l,intV n]∧List.length l<1000000∧decide (n∈l)=b∧k (.ret (.p (.bool b))) K
theorem among11_ok:COk 20 cAmong11:=by
 rintro args K k ⟨l,n,b,rfl,hl,rfl,hk⟩
 refine frame0P g0_ok 19 rfl fun Q hr=>?_
 conv=>whnf
 refine loop_up (ι:=Nat) [0,1] (fun i=>[(5,intV i)]) (fun _=>[]) (fun i=>i≤l.length∧n ∉ l.take i) (fun i=>l.length - i) 0 ⟨AV.le_refl _,trivial⟩ trivial ⟨Nat.zero_le _,by simp⟩ ?_
 rintro Y hle i ⟨hi,hni⟩ ih
 conv=>whnf
 refine two_dec (fun h=>?_) (fun h=>?_)
 ·have h:i<l.length:=by have h:(i:Int)<(l.length:Int):=h;omega
  have hw1:=wzz (i:=i) (by omega)
  have hil:(i:Int)<(l.length:Int):=by omega
  have e1:l.getD i 0=l[i]:=by simp [h]
  have htk:l.take (i+1)=l.take i++[l.getD i 0]:=by rw [List.take_add_one,e1,List.getElem?_eq_getElem h];rfl
  conv=>whnf
  refine Chk.mk ⟨Int.natCast_nonneg i,hil,rfl⟩ ?_
  conv=>whnf
  refine two_eq (fun h2=>?_) (fun h2=>?_)
  ·have h2:l.getD i 0=n:=h2
   have hm:n∈l:=by rw [← h2,e1];exact List.getElem_mem h
   rw [decide_eq_true hm] at hk
   conv=>whnf
   exact hr _ _ rfl hk
  ·have h2:l.getD i 0≠n:=h2
   conv=>whnf
   refine hle _ _ (Le.env ?_ ?_) (ih (i+1) (by omega) ⟨by omega,by rw [htk];simp only [List.mem_append,List.mem_cons,List.not_mem_nil,or_false,not_or];exact⟨hni,fun e=>h2 e.symm⟩⟩)
   ·skip
    repeat' (first|exact trivial|((conv=>whnf);first|exact trivial|refine⟨AV.le_refl _,?_⟩|refine⟨ABlk.le_refl _,?_⟩|(refine⟨AV.le_of_eq ?_,?_⟩;focus ((first|exact congrArg intV hw1|fail);done))|(refine⟨ABlk.le_of_eq ?_,?_⟩;focus ((first|exact congrArg intV hw1|fail);done))|fail)|fail)
   ·skip
    repeat' (first|exact trivial|((conv=>whnf);first|exact trivial|refine⟨AV.le_refl _,?_⟩|refine⟨ABlk.le_refl _,?_⟩|fail)|fail)
 ·obtain rfl:i=l.length:=by have h:¬ (i:Int)<(l.length:Int):=h;omega
  rw [List.take_length] at hni
  rw [decide_eq_false hni] at hk
  conv=>whnf
  exact hr _ _ rfl hk
structure SmG (s:BSt):Prop where
 n:s.n≤30
 ps:s.ps.length≤30
 nx:∀ x,x<s.n→(s.f x).nx.length≤10
def cSmG:AC:=fun args K k=>∃ s,args=[graphW s]∧(SmG s→k (.ret (.p (.bool true))) K)∧k (.ret (.p (.bool false))) K
theorem small11_ok:COk 13 cSmG:=by
 rintro args K k ⟨s,rfl,hk1,hk0⟩
 refine frame0P g0_ok 19 rfl fun Q hr=>?_
 conv=>whnf
 refine two_dec (fun h=>?_) (fun h=>?_)
 ·conv=>whnf
  exact hr _ _ rfl hk0
 have h:s.n≤30:=by have h:¬ (s.n:Int)>30:=h;omega
 conv=>whnf
 refine two_dec (fun h2=>?_) (fun h2=>?_)
 ·conv=>whnf
  exact hr _ _ rfl hk0
 have h2:s.ps.length≤30:=by have h2:¬ (s.ps.length:Int)>30:=h2;omega
 conv=>whnf
 refine loop_up (ι:=Nat) [1] (fun i=>[(3,intV i)]) (fun _=>[]) (fun i=>i≤s.n∧∀ x,x<i→(s.f x).nx.length≤10) (fun i=>s.n - i) 0 ⟨AV.le_refl _,trivial⟩ trivial ⟨Nat.zero_le _,fun x hx=>by omega⟩ ?_
 rintro Y hle i ⟨hi,he⟩ ih
 conv=>whnf
 refine two_dec (fun h3=>?_) (fun h3=>?_)
 ·have h3:i<s.n:=by have h3:(i:Int)<(s.n:Int):=h3;omega
  have hw1:=wzz (i:=i) (by omega)
  have h3':(i:Int)<(s.n:Int):=by omega
  conv=>whnf
  refine Chk.mk ⟨Int.natCast_nonneg i,h3',rfl⟩ ?_
  conv=>whnf
  refine two_dec (fun h4=>?_) (fun h4=>?_)
  ·conv=>whnf
   exact hr _ _ rfl hk0
  have h4:(s.f i).nx.length≤10:=by have h4:¬ ((s.f i).nx.length:Int)>10:=h4;omega
  conv=>whnf
  refine hle _ _ (Le.env ?_ ?_) (ih (i+1) (by omega) ⟨by omega,fun x hx=>by
   by_cases e:x=i
   ·rw [e];exact h4
   ·exact he x (by omega)⟩)
  ·skip
   repeat' (first|exact trivial|((conv=>whnf);first|exact trivial|refine⟨AV.le_refl _,?_⟩|refine⟨ABlk.le_refl _,?_⟩|(refine⟨AV.le_of_eq ?_,?_⟩;focus ((first|exact congrArg intV hw1|fail);done))|(refine⟨ABlk.le_of_eq ?_,?_⟩;focus ((first|exact congrArg intV hw1|fail);done))|fail)|fail)
  ·skip
   repeat' (first|exact trivial|((conv=>whnf);first|exact trivial|refine⟨AV.le_refl _,?_⟩|refine⟨ABlk.le_refl _,?_⟩|fail)|fail)
 ·obtain rfl:i=s.n:=by have h3:¬ (i:Int)<(s.n:Int):=h3;omega
  have hk:=hk1 ⟨h,h2,he⟩
  conv=>whnf
  exact hr _ _ rfl hk
def pr11:List Nd:=[⟨5,1,14,[120],[]⟩,⟨18,0,32,[108,111],[]⟩,⟨9,0,25,[120],[1]⟩,⟨22,0,39,[120],[]⟩,⟨20,1,43,[],[]⟩,⟨27,0,41,[60],[3,4]⟩,⟨18,0,51,[108,111],[]⟩,⟨20,1,54,[],[]⟩,⟨10,0,47,[],[6,7]⟩,⟨6,0,45,[],[8]⟩,⟨6,0,36,[],[]⟩,⟨11,0,36,[],[5,9,10]⟩,⟨18,0,63,[108,111],[]⟩,⟨20,2,66,[],[]⟩,⟨10,0,59,[],[12,13]⟩,⟨6,0,12,[],[2,11,14]⟩,⟨3,0,0,[109,97,105,110],[0,15]⟩,⟨1,0,0,[],[16]⟩]
def gr11:List GN:=[⟨1,16,0,[3],-1⟩,⟨2,16,0,[],-1⟩,⟨3,16,0,[],-1⟩,⟨4,2,0,[5],-1⟩,⟨4,8,0,[6],-1⟩,⟨4,11,0,[4,6],-1⟩,⟨4,14,0,[1],-1⟩]
def bs11:BSt:=⟨7,fun i=>gr11.getD i default,fun _=>none,[16],17⟩
def tx11:Bs:=[112,114,111,99,32,109,97,105,110,40,41,32,123,32,118,97,114,32,120,32,105,110,116,59,32,120,32,61,32,105,110,32,108,111,59,32,105,102,32,120,32,60,32,49,32,123,32,111,117,116,32,108,111,32,49,59,32,125,32,111,117,116,32,108,111,32,50,59,32,125]
theorem pr11_eq:proS tx11=.ok pr11 17 2:=by kernel_rfl
theorem ck11_eq:checkTree pr11 17=(0,0):=by kernel_rfl
theorem pr11_tame:Tame pr11:=small_tame (m:=400) (by decide) (by kernel_rfl)
theorem bs11_n:(buildS pr11 17).n=7:=by kernel_rfl
theorem bs11_ps:(buildS pr11 17).ps=[16]:=by kernel_rfl
theorem bs11_all:(List.range 7).all (fun i=>gnB ((buildS pr11 17).f i) (gr11.getD i default))=true:=by kernel_rfl
theorem bs11_f:∀ i,i<7→(buildS pr11 17).f i=gr11.getD i default:=fun i hi=>by
 have:=List.all_eq_true.1 bs11_all i (List.mem_range.2 hi)
 exact gnB_eq this
theorem short11:∀ x,x<7→(bs11.f x).nx.length<1000:=fun x hx=>by
 rcases x with _|_|_|_|_|_|_|x<;>first|decide|omega
theorem nds11:ndsP bs11.f 0 bs11.n=[0,1,2,3,4,5,6]:=by kernel_rfl
def pg11:PG:=pgN bs11.f [0,1,2,3,4,5,6]
theorem way11_1:Go.Ru.Way pg11 1 [1]:=.stop (by kernel_rfl)
theorem way11_2:Go.Ru.Way pg11 2 [2]:=.stop (by kernel_rfl)
theorem nx11_6:pg11.nx 6=[1]:=by kernel_rfl
theorem nx11_5:pg11.nx 5=[4,6]:=by kernel_rfl
theorem nx11_4:pg11.nx 4=[6]:=by kernel_rfl
theorem nx11_3:pg11.nx 3=[5]:=by kernel_rfl
theorem nx11_0:pg11.nx 0=[3]:=by kernel_rfl
theorem way11_6:Go.Ru.Way pg11 6 [6,1]:=.go (by rw [nx11_6];simp) way11_1
theorem way11_5:Go.Ru.Way pg11 5 [5,6,1]:=.go (by rw [nx11_5];simp) way11_6
theorem way11_4:Go.Ru.Way pg11 4 [4,6,1]:=.go (by rw [nx11_4];simp) way11_6
theorem way11_3:Go.Ru.Way pg11 3 [3,5,6,1]:=.go (by rw [nx11_3];simp) way11_5
theorem way11_0:Go.Ru.Way pg11 0 [0,3,5,6,1]:=.go (by rw [nx11_0];simp) way11_3
theorem live11:∀ i,i<7→∃ l,Go.Ru.Way pg11 i l:=fun i hi=>by
 rcases i with _|_|_|_|_|_|_|i
 ·exact⟨_,way11_0⟩
 ·exact⟨_,way11_1⟩
 ·exact⟨_,way11_2⟩
 ·exact⟨_,way11_3⟩
 ·exact⟨_,way11_4⟩
 ·exact⟨_,way11_5⟩
 ·exact⟨_,way11_6⟩
 ·omega
def in11 (i:Nat):Bool:=(wayN (bs11.f (([0,1,2,3,4,5,6]:List Int).getD i 0).toNat)).all fun y=>(posL y [0,1,2,3,4,5,6]).isSome
theorem good11:GoodP bs11 0 where
 lo:=Int.le_refl _
 hi:=by decide
 ok:=by
  rw [nds11]
  refine⟨fun i hi=>?_,fun i hi=>live11 i hi⟩
  have h:(List.range 7).all in11=true:=by kernel_rfl
  have:=List.all_eq_true.1 h i (List.mem_range.2 hi)
  exact List.all_eq_true.1 this
theorem near_eq {M:PM} (h:PMok M) {i k:Nat} (hi:i<M.g.n) (hk:PD M.g i k) (hne:k≠i) (hm:∀ m,PD M.g i m→m≠i→PD M.g k m):M.nx i=some k:=by
 cases e:M.nx i with
 | none=>exact absurd ((h.nxt.near i hi).none e k hk) hne
 | some j =>
  obtain⟨h1,h2,h3⟩:=(h.nxt.near i hi).some j e
  exact congrArg some (PD.anti (h.ok.live j (h2.rng h.ok hi)) (h3 k hk hne) (hm j h2 h1))
structure N11 (M:PM):Prop where
 k:PMk M
 in_:nextM M 3=5
 br:nextM M 5=6
 a:nextM M 4=6
 b:nextM M 6=1
 ex:nextM M 1=-1
theorem n11 {M:PM} (h:PMof bs11 0 M):N11 M:=by
 have hN:M.N=[0,1,2,3,4,5,6]:=h.N.trans nds11
 have hg:M.g=pg11:=by rw [h.g,hN];rfl
 have ok:=h.ok
 have hn:M.g.n=7:=by rw [hg];rfl
 have e3:M.nx 3=some 5:=one_next ok (by omega) (by rw [hg];kernel_rfl) (fun k=>by rw [hg,nx11_3];simp) (by decide)
 have e4:M.nx 4=some 6:=one_next ok (by omega) (by rw [hg];kernel_rfl) (fun k=>by rw [hg,nx11_4];simp) (by decide)
 have e6:M.nx 6=some 1:=one_next ok (by omega) (by rw [hg];kernel_rfl) (fun k=>by rw [hg,nx11_6];simp) (by decide)
 have e1:M.nx 1=none:=end_next ok (by omega) (by rw [hg];kernel_rfl)
 have e5:M.nx 5=some 6:=by
  have h46:PD M.g 4 6:=(pd_fix _ _ _).2 (.inr ⟨by rw [hg];kernel_rfl,fun j hj=>by
   rw [hg,nx11_4] at hj;rw [List.mem_singleton.1 hj];exact .refl _ _⟩)
  have h61:PD M.g 6 1:=(pd_fix _ _ _).2 (.inr ⟨by rw [hg];kernel_rfl,fun j hj=>by
   rw [hg,nx11_6] at hj;rw [List.mem_singleton.1 hj];exact .refl _ _⟩)
  refine near_eq ok (by omega) ((pd_fix _ _ _).2 (.inr ⟨by rw [hg];kernel_rfl,fun j hj=>?_⟩)) (by decide) fun m hm hne=>?_
  ·rw [hg,nx11_5] at hj
   rcases List.mem_cons.1 hj with rfl|hj
   ·exact h46
   ·rw [List.mem_singleton.1 hj];exact .refl _ _
  ·have:=hm _ (hg▸way11_5)
   simp only [List.mem_cons,List.not_mem_nil,or_false] at this
   rcases this with rfl|rfl|rfl
   ·exact absurd rfl hne
   ·exact .refl _ _
   ·exact h61
 have hl:M.N.length<4096:=by rw [hN];decide
 refine⟨⟨ok,hl⟩,?_,?_,?_,?_,?_⟩
 ·unfold nextM
  rw [show posL 3 M.N=some 3 by rw [hN];kernel_rfl]
  simp only [e3,hN];rfl
 ·unfold nextM
  rw [show posL 5 M.N=some 5 by rw [hN];kernel_rfl]
  simp only [e5,hN];rfl
 ·unfold nextM
  rw [show posL 4 M.N=some 4 by rw [hN];kernel_rfl]
  simp only [e4,hN];rfl
 ·unfold nextM
  rw [show posL 6 M.N=some 6 by rw [hN];kernel_rfl]
  simp only [e6,hN];rfl
 ·unfold nextM
  rw [show posL 1 M.N=some 1 by rw [hN];kernel_rfl]
  simp only [e1]
def gS11:AG:=gput 42 (cTop proS) (gput 21 eBuildL (gput 22 (eEnds 2) (gput 14 cPoNew (gput 19 cPoNext g0))))
theorem gS11_ok:GOk Tryz.prog gS11:=gput_ok Program_ok (gput_ok eBuildL_ok (gput_ok exit_ok (gput_ok poNew_ok (gput_ok poNext_ok g0_ok))))
theorem shown11_ok:COk 12 cShown7:=by
 rintro args K k ⟨rfl,hk⟩
 refine frame0P gS11_ok 19 rfl fun Q hr=>?_
 conv=>whnf
 refine⟨tx11,rfl,by decide,?_⟩
 rw [pr11_eq]
 conv=>whnf
 refine⟨pr11,17,0,_,bs11,rfl,pr11_tame,ck11_eq,rfl,bs11_n,bs11_ps,fun i hi=>bs11_f i (by rw [bs11_n] at hi;exact hi),?_⟩
 conv=>whnf
 refine⟨bs11,0,rfl,by decide,short11,fun M hM=>?_,fun h=>absurd good11 h⟩
 have n:=n11 hM
 clear hM
 conv=>whnf
 repeat (refine Chk.mk ⟨by decide,by decide,rfl⟩ ?_;conv=>whnf)
 refine⟨M,3,5,rfl,n.k,n.in_,?_⟩
 conv=>whnf
 repeat (refine Chk.mk ⟨by decide,by decide,rfl⟩ ?_;conv=>whnf)
 refine⟨M,5,6,rfl,n.k,n.br,?_⟩
 conv=>whnf
 refine⟨M,4,6,rfl,n.k,n.a,?_⟩
 conv=>whnf
 refine⟨M,6,1,rfl,n.k,n.b,?_⟩
 conv=>whnf
 refine And.intro ?_ ?_
 ·(conv=>whnf)
 conv=>whnf
 refine⟨bs11,0,1,rfl,by decide,by kernel_rfl,?_⟩
 conv=>whnf
 refine⟨bs11,0,1,rfl,by decide,by kernel_rfl,?_⟩
 conv=>whnf
 refine⟨M,1,-1,rfl,n.k,n.ex,?_⟩
 conv=>whnf
 exact hr _ _ rfl hk
theorem pmw {s:BSt} {proc:Int} {M:PM} (h:PMof s proc M):PMw M fun i=>wayN (s.f (M.N.getD i 0).toNat) where
 to i hi y hy:=by
  have hin:=h.good.ok.in_ i (by rw [← h.N,← h.ok.len];exact hi)
  rw [← h.N] at hin
  obtain⟨j,hj⟩:=Option.isSome_iff_exists.1 (hin y hy)
  refine⟨j,hj,?_⟩
  rw [h.g]
  exact List.mem_map.2 ⟨y,hy,by rw [hj];rfl⟩
 of i hi j hj:=by
  have hin:=h.good.ok.in_ i (by rw [← h.N,← h.ok.len];exact hi)
  rw [← h.N] at hin
  rw [h.g] at hj
  obtain⟨y,hy,e⟩:=List.mem_map.1 hj
  obtain⟨j',hj'⟩:=Option.isSome_iff_exists.1 (hin y hy)
  rw [hj'] at e
  exact⟨y,hy,by rw [hj'];exact congrArg some e⟩
def alT (M:PM) (g:GN) (z:Int) (t:Nat):Bool:=!endB g&&(g.nx.take t).all fun y=>passM M y z
theorem alT_zero (M:PM) (g:GN) (z:Int):alT M g z 0=!endB g:=by simp [alT]
theorem alT_succ {M:PM} {g:GN} {z:Int} {t:Nat} (h:t<g.nx.length):alT M g z (t+1)=(alT M g z t&&passM M (g.nx.getD t 0) z):=by
 unfold alT
 rw [List.take_add_one,List.getElem?_eq_getElem h,List.all_append,List.getD_eq_getElem?_getD,List.getElem?_eq_getElem h]
 simp [Bool.and_assoc]
def alR (M:PM) (g:GN) (z:Int):Bool:=if g.ra=-1 then alT M g z g.nx.length else (alT M g z g.nx.length&&passM M g.ra z)
theorem ways_fin {s:BSt} {proc:Int} {M:PM} (h:PMof s proc M) {i k:Nat} (hi:i<M.N.length) (hk:k<M.N.length):passM M (M.N.getD i 0) (M.N.getD k 0)=(alR M (s.f (M.N.getD i 0).toNat) (M.N.getD k 0) || M.N.getD i 0==M.N.getD k 0):=by
 have hl:=h.ok.len
 have hi':i<M.g.n:=by omega
 have hk':k<M.g.n:=by omega
 have hik:(i==k)=(M.N.getD i 0==M.N.getD k 0):=by
  rw [Bool.eq_iff_iff,beq_iff_eq,beq_iff_eq]
  constructor
  ·rintro rfl;rfl
  ·intro e
   have h1:=h.ok.at hi'
   have h2:=h.ok.at hk'
   rw [e,h2] at h1
   exact (Option.some.inj h1).symm
 rw [passM_in h.ok (h.ok.at hi') (h.ok.at hk'),ways_law h.ok (pmw h) hi' hk',hik]
 congr 1
 have he:M.g.en i=endB (s.f (M.N.getD i 0).toNat):=by rw [h.g];rfl
 rw [he]
 unfold alR alT wayN
 rw [List.take_length,List.all_append]
 by_cases e:(s.f (M.N.getD i 0).toNat).ra=-1
 ·rw [if_pos e,if_pos e];simp
 ·rw [if_neg e,if_neg e];simp [Bool.and_assoc]
def gPw:AG:=gput 12 cShown7 (gput 13 cSmG (gput 14 cPoNew (gput 15 cNodes (gput 25 cPasses g0))))
theorem gPw_ok:GOk Tryz.prog gPw:=gput_ok shown11_ok (gput_ok small11_ok (gput_ok poNew_ok (gput_ok nodes_ok (gput_ok passes_ok g0_ok))))
theorem ways_calls (s:BSt) (proc:Int) (K:List ABlk) (kk:AO→List ABlk→Prop) (hk:kk (.ret (.p (.bool true))) K):ACalls Tryz.prog 5 [graphW s,intV proc] K kk:=by
 refine frame0P gPw_ok 19 rfl fun Q hr=>?_
 conv=>whnf
 refine⟨rfl,?_⟩
 conv=>whnf
 refine⟨s,rfl,fun hs=>?_,?_⟩
 rotate_left
 ·conv=>whnf
  exact hr _ _ rfl hk
 conv=>whnf
 refine⟨s,proc,rfl,by have:=hs.n;omega,fun x hx=>by have:=hs.nx x hx;omega,fun M hM=>?_,fun h=>?_⟩
 rotate_left
 ·conv=>whnf
  exact hr _ _ rfl hk
 have hN:M.N.length<4096:=by have h1:=hs.n;have h2:=ndsP_len s.f proc s.n;rw [← hM.N] at h2;omega
 have hk1:PMk M:=⟨hM.ok,hN⟩
 have hW:=fun i k (hi:i<M.N.length) (hk:k<M.N.length)=>ways_fin hM hi hk
 have hrg:∀ i,i<M.N.length→∃ x:Nat,M.N.getD i 0=(x:Int)∧x<s.n:=fun i hi=>by
  have:M.N.getD i 0∈ndsP s.f proc s.n:=by rw [← hM.N,List.getD_eq_getElem?_getD,List.getElem?_eq_getElem hi];exact List.getElem_mem hi
  obtain⟨x,h1,h2,_⟩:=ndsP_mem.1 this
  exact⟨x,h1,h2⟩
 conv=>whnf
 refine⟨M,rfl,hk1,?_⟩
 conv=>whnf
 obtain⟨L,hL⟩:∃ L,M.N=L:=⟨_,rfl⟩
 rw [hL] at hN hrg
 simp only [hL] at hW
 rw [hL]
 refine loop_up (ι:=Nat) [2,7,9] (fun i=>[(10,intV i)]) (fun _=>[]) (fun i=>i≤L.length) (fun i=>L.length - i) 0 ⟨AV.le_refl _,trivial⟩ trivial (Nat.zero_le _) ?_
 rintro Y hle i hi ih
 conv=>whnf
 refine two_dec (fun h=>?_) (fun h=>?_)
 rotate_left
 ·conv=>whnf
  exact hr _ _ rfl hk
 have h:i<L.length:=by have h:(i:Int)<(L.length:Int):=h;omega
 have hw1:=wzz (i:=i) (by omega)
 have hil:(i:Int)<(L.length:Int):=by omega
 obtain⟨x,hx,hxn⟩:=hrg i h
 have hxn':(x:Int)<(s.n:Int):=by omega
 conv=>whnf
 refine Chk.mk ⟨Int.natCast_nonneg i,hil,rfl⟩ ?_
 have hkid:kidF L (Int.toNat (i:Int))=[.int .i64 (x:Int)]:=by rw [Int.toNat_natCast];unfold kidF;rw [hx]
 conv in (kidF _ _)=>rw [hkid]
 conv=>whnf
 refine Chk.mk ⟨Int.natCast_nonneg x,hxn',rfl⟩ ?_
 conv=>whnf
 repeat ((refine And.intro ?_ ?_);(focus ((conv=>whnf);first|done|(refine Chk.mk ⟨Int.natCast_nonneg x,hxn',rfl⟩ ?_;conv=>whnf)|(refine Chk.mk ⟨Int.natCast_nonneg i,hil,rfl⟩ ?_;(conv in (kidF _ _)=>rw [hkid]);(conv=>whnf);first|done|(refine Chk.mk ⟨Int.natCast_nonneg x,hxn',rfl⟩ ?_;conv=>whnf))));conv=>whnf)
 refine two_eq (fun h2=>?_) (fun h2=>?_)
 ·have hend:true=endB (s.f x):=by have h2:(s.f x).k=2:=h2;simp [endB,h2]
  conv=>whnf
  refine loop_up (ι:=Nat) [2,7,9,10,11] (fun k=>[(12,.p (.bool (endB (s.f x)))),(13,intV k)]) (fun _=>[]) (fun k=>k≤L.length) (fun k=>L.length - k) 0 ⟨AV.le_of_eq (congrArg (fun b=>AV.p (.bool b)) hend),AV.le_refl _,trivial⟩ trivial (Nat.zero_le _) ?_
  rintro Z hlz k hk2 ihz
  conv=>whnf
  refine two_dec (fun hkl=>?_) (fun hkl=>?_)
  rotate_left
  ·conv=>whnf
   refine hle _ _ (Le.cutEnv 1 rfl rfl ⟨rfl,trivial⟩ ?_ ?_) (ih (i+1) (by omega) (by omega))
   ·skip
    repeat' (first|exact trivial|((conv=>whnf);first|exact trivial|refine⟨AV.le_refl _,?_⟩|refine⟨ABlk.le_refl _,?_⟩|(refine⟨AV.le_of_eq ?_,?_⟩;focus ((first|exact congrArg intV hw1|fail);done))|(refine⟨ABlk.le_of_eq ?_,?_⟩;focus ((first|exact congrArg intV hw1|fail);done))|fail)|fail)
   ·skip
    repeat' (first|exact trivial|((conv=>whnf);first|exact trivial|refine⟨AV.le_refl _,?_⟩|refine⟨ABlk.le_refl _,?_⟩|fail)|fail)
  have hkl:k<L.length:=by have h:(k:Int)<(L.length:Int):=hkl;omega
  have hw2:=wzz (i:=k) (by omega)
  have hkl':(k:Int)<(L.length:Int):=by omega
  have hv:=hW i k h hkl
  obtain⟨z,hz⟩:∃ z,L.getD k 0=z:=⟨_,rfl⟩
  have hkidz:kidF L (Int.toNat (k:Int))=[.int .i64 z]:=by rw [Int.toNat_natCast];unfold kidF;rw [hz]
  rw [hz,hx,Int.toNat_natCast] at hv
  conv=>whnf
  refine loop_up (ι:=Nat) [2,4,7,9,10,11,12,13] (fun j=>[(14,.p (.bool (alT M (s.f x) z j))),(15,intV j)]) (fun _=>[]) (fun j=>j≤(s.f x).nx.length) (fun j=>(s.f x).nx.length - j) 0 ⟨AV.le_of_eq (congrArg (fun b=>AV.p (.bool b)) (alT_zero M (s.f x) z).symm),AV.le_refl _,trivial⟩ trivial (Nat.zero_le _) ?_
  rintro X hlx j hj ihx
  conv=>whnf
  refine two_dec (fun hjl=>?_) (fun hjl=>?_)
  ·have hjl:j<(s.f x).nx.length:=by have h:(j:Int)<((s.f x).nx.length:Int):=hjl;omega
   have hw3:=wzz (i:=j) (by have:=hs.nx x hxn;omega)
   have hjl':(j:Int)<((s.f x).nx.length:Int):=by omega
   have hsc:=alT_succ (M:=M) (g:=s.f x) (z:=z) hjl
   conv=>whnf
   refine two_intro (fun hb=>?_) (fun hb=>?_)
   ·have hb:alT M (s.f x) z j=true:=hb
    have hb2:passM M ((s.f x).nx.getD j 0) z=alT M (s.f x) z (j+1):=by rw [hsc,hb,Bool.true_and]
    conv=>whnf
    refine Chk.mk ⟨Int.natCast_nonneg j,hjl',rfl⟩ ?_
    conv=>whnf
    refine Chk.mk ⟨Int.natCast_nonneg k,hkl',rfl⟩ ?_
    conv in (kidF L _)=>rw [hkidz]
    conv=>whnf
    refine⟨M,(s.f x).nx.getD j 0,z,_,rfl,hk1,rfl,?_⟩
    conv=>whnf
    refine hlx _ _ (Le.env ?_ ?_) (ihx (j+1) (by omega) (by omega))
    ·skip
     repeat' (first|exact trivial|((conv=>whnf);first|exact trivial|refine⟨AV.le_refl _,?_⟩|refine⟨ABlk.le_refl _,?_⟩|(refine⟨AV.le_of_eq ?_,?_⟩;focus ((first|exact congrArg intV hw3|exact congrArg (fun b=>AV.p (.bool b)) hb2|fail);done))|(refine⟨ABlk.le_of_eq ?_,?_⟩;focus ((first|exact congrArg intV hw3|exact congrArg (fun b=>AV.p (.bool b)) hb2|fail);done))|fail)|fail)
    ·skip
     repeat' (first|exact trivial|((conv=>whnf);first|exact trivial|refine⟨AV.le_refl _,?_⟩|refine⟨ABlk.le_refl _,?_⟩|fail)|fail)
   ·have hb:alT M (s.f x) z j=false:=hb
    have hb2:false=alT M (s.f x) z (j+1):=by rw [hsc,hb,Bool.false_and]
    conv=>whnf
    refine hlx _ _ (Le.env ?_ ?_) (ihx (j+1) (by omega) (by omega))
    ·skip
     repeat' (first|exact trivial|((conv=>whnf);first|exact trivial|refine⟨AV.le_refl _,?_⟩|refine⟨ABlk.le_refl _,?_⟩|(refine⟨AV.le_of_eq ?_,?_⟩;focus ((first|exact congrArg intV hw3|exact congrArg (fun b=>AV.p (.bool b)) hb2|fail);done))|(refine⟨ABlk.le_of_eq ?_,?_⟩;focus ((first|exact congrArg intV hw3|exact congrArg (fun b=>AV.p (.bool b)) hb2|fail);done))|fail)|fail)
    ·skip
     repeat' (first|exact trivial|((conv=>whnf);first|exact trivial|refine⟨AV.le_refl _,?_⟩|refine⟨ABlk.le_refl _,?_⟩|fail)|fail)
  obtain rfl:j=(s.f x).nx.length:=by have h:¬ (j:Int)<((s.f x).nx.length:Int):=hjl;omega
  conv=>whnf
  refine two_ne (fun hra=>?_) (fun hra=>?_)
  ·have hra:(s.f x).ra≠-1:=hra
   have har:alR M (s.f x) z=(alT M (s.f x) z (s.f x).nx.length&&passM M (s.f x).ra z):=by unfold alR;rw [if_neg hra]
   conv=>whnf
   refine two_intro (fun hb=>?_) (fun hb=>?_)
   ·have hb:alT M (s.f x) z (s.f x).nx.length=true:=hb
    rw [har,hb,Bool.true_and] at hv
    conv=>whnf
    refine Chk.mk ⟨Int.natCast_nonneg k,hkl',rfl⟩ ?_
    conv in (kidF L _)=>rw [hkidz]
    conv=>whnf
    refine⟨M,(s.f x).ra,z,_,rfl,hk1,rfl,?_⟩
    conv=>whnf
    refine Chk.mk ⟨Int.natCast_nonneg i,hil,rfl⟩ ?_
    conv in (kidF L _)=>rw [hkid]
    conv=>whnf
    refine Chk.mk ⟨Int.natCast_nonneg k,hkl',rfl⟩ ?_
    conv in (kidF L _)=>rw [hkidz]
    conv=>whnf
    refine⟨M,(x:Int),z,_,rfl,hk1,hv,?_⟩
    conv=>whnf
    refine two_intro (fun hb3=>?_) (fun hb3=>?_)
    ·skip
     conv=>whnf
     refine two_false (show (!(((passM M (s.f x).ra z) || (x:Int)==z)==true))=false by rw [show (passM M (s.f x).ra z)=true from hb3];rfl) ?_
     conv=>whnf
     refine hlz _ _ (Le.env ?_ ?_) (ihz (k+1) (by omega) (by omega))
     ·skip
      repeat' (first|exact trivial|((conv=>whnf);first|exact trivial|refine⟨AV.le_refl _,?_⟩|refine⟨ABlk.le_refl _,?_⟩|(refine⟨AV.le_of_eq ?_,?_⟩;focus ((first|exact congrArg intV hw2|fail);done))|(refine⟨ABlk.le_of_eq ?_,?_⟩;focus ((first|exact congrArg intV hw2|fail);done))|fail)|fail)
     ·skip
      repeat' (first|exact trivial|((conv=>whnf);first|exact trivial|refine⟨AV.le_refl _,?_⟩|refine⟨ABlk.le_refl _,?_⟩|fail)|fail)
    ·skip
     conv=>whnf
     refine Chk.mk ⟨Int.natCast_nonneg i,hil,rfl⟩ ?_
     conv in (kidF L _)=>rw [hkid]
     conv=>whnf
     refine Chk.mk ⟨Int.natCast_nonneg k,hkl',rfl⟩ ?_
     conv in (kidF L _)=>rw [hkidz]
     conv=>whnf
     refine two_false (show (!(((passM M (s.f x).ra z) || (x:Int)==z)==((x:Int)==z)))=false by rw [show (passM M (s.f x).ra z)=false from hb3];cases ((x:Int)==z)<;>rfl) ?_
     conv=>whnf
     refine hlz _ _ (Le.env ?_ ?_) (ihz (k+1) (by omega) (by omega))
     ·skip
      repeat' (first|exact trivial|((conv=>whnf);first|exact trivial|refine⟨AV.le_refl _,?_⟩|refine⟨ABlk.le_refl _,?_⟩|(refine⟨AV.le_of_eq ?_,?_⟩;focus ((first|exact congrArg intV hw2|fail);done))|(refine⟨ABlk.le_of_eq ?_,?_⟩;focus ((first|exact congrArg intV hw2|fail);done))|fail)|fail)
     ·skip
      repeat' (first|exact trivial|((conv=>whnf);first|exact trivial|refine⟨AV.le_refl _,?_⟩|refine⟨ABlk.le_refl _,?_⟩|fail)|fail)
   ·have hb:alT M (s.f x) z (s.f x).nx.length=false:=hb
    rw [har,hb,Bool.false_and] at hv
    conv=>whnf
    refine Chk.mk ⟨Int.natCast_nonneg i,hil,rfl⟩ ?_
    conv in (kidF L _)=>rw [hkid]
    conv=>whnf
    refine Chk.mk ⟨Int.natCast_nonneg k,hkl',rfl⟩ ?_
    conv in (kidF L _)=>rw [hkidz]
    conv=>whnf
    refine⟨M,(x:Int),z,_,rfl,hk1,hv,?_⟩
    conv=>whnf
    have hb3:false=false:=rfl
    refine Chk.mk ⟨Int.natCast_nonneg i,hil,rfl⟩ ?_
    conv in (kidF L _)=>rw [hkid]
    conv=>whnf
    refine Chk.mk ⟨Int.natCast_nonneg k,hkl',rfl⟩ ?_
    conv in (kidF L _)=>rw [hkidz]
    conv=>whnf
    refine two_false (show (!((false || (x:Int)==z)==((x:Int)==z)))=false by rw [show false=false from hb3];cases ((x:Int)==z)<;>rfl) ?_
    conv=>whnf
    refine hlz _ _ (Le.env ?_ ?_) (ihz (k+1) (by omega) (by omega))
    ·skip
     repeat' (first|exact trivial|((conv=>whnf);first|exact trivial|refine⟨AV.le_refl _,?_⟩|refine⟨ABlk.le_refl _,?_⟩|(refine⟨AV.le_of_eq ?_,?_⟩;focus ((first|exact congrArg intV hw2|fail);done))|(refine⟨ABlk.le_of_eq ?_,?_⟩;focus ((first|exact congrArg intV hw2|fail);done))|fail)|fail)
    ·skip
     repeat' (first|exact trivial|((conv=>whnf);first|exact trivial|refine⟨AV.le_refl _,?_⟩|refine⟨ABlk.le_refl _,?_⟩|fail)|fail)
  ·have hra:(s.f x).ra=-1:=hra
   have har:alR M (s.f x) z=alT M (s.f x) z (s.f x).nx.length:=by unfold alR;rw [if_pos hra]
   rw [har] at hv
   conv=>whnf
   refine Chk.mk ⟨Int.natCast_nonneg i,hil,rfl⟩ ?_
   conv in (kidF L _)=>rw [hkid]
   conv=>whnf
   refine Chk.mk ⟨Int.natCast_nonneg k,hkl',rfl⟩ ?_
   conv in (kidF L _)=>rw [hkidz]
   conv=>whnf
   refine⟨M,(x:Int),z,_,rfl,hk1,hv,?_⟩
   conv=>whnf
   refine two_intro (fun hb3=>?_) (fun hb3=>?_)
   ·skip
    conv=>whnf
    refine two_false (show (!(((alT M (s.f x) z (s.f x).nx.length) || (x:Int)==z)==true))=false by rw [show (alT M (s.f x) z (s.f x).nx.length)=true from hb3];rfl) ?_
    conv=>whnf
    refine hlz _ _ (Le.env ?_ ?_) (ihz (k+1) (by omega) (by omega))
    ·skip
     repeat' (first|exact trivial|((conv=>whnf);first|exact trivial|refine⟨AV.le_refl _,?_⟩|refine⟨ABlk.le_refl _,?_⟩|(refine⟨AV.le_of_eq ?_,?_⟩;focus ((first|exact congrArg intV hw2|fail);done))|(refine⟨ABlk.le_of_eq ?_,?_⟩;focus ((first|exact congrArg intV hw2|fail);done))|fail)|fail)
    ·skip
     repeat' (first|exact trivial|((conv=>whnf);first|exact trivial|refine⟨AV.le_refl _,?_⟩|refine⟨ABlk.le_refl _,?_⟩|fail)|fail)
   ·skip
    conv=>whnf
    refine Chk.mk ⟨Int.natCast_nonneg i,hil,rfl⟩ ?_
    conv in (kidF L _)=>rw [hkid]
    conv=>whnf
    refine Chk.mk ⟨Int.natCast_nonneg k,hkl',rfl⟩ ?_
    conv in (kidF L _)=>rw [hkidz]
    conv=>whnf
    refine two_false (show (!(((alT M (s.f x) z (s.f x).nx.length) || (x:Int)==z)==((x:Int)==z)))=false by rw [show (alT M (s.f x) z (s.f x).nx.length)=false from hb3];cases ((x:Int)==z)<;>rfl) ?_
    conv=>whnf
    refine hlz _ _ (Le.env ?_ ?_) (ihz (k+1) (by omega) (by omega))
    ·skip
     repeat' (first|exact trivial|((conv=>whnf);first|exact trivial|refine⟨AV.le_refl _,?_⟩|refine⟨ABlk.le_refl _,?_⟩|(refine⟨AV.le_of_eq ?_,?_⟩;focus ((first|exact congrArg intV hw2|fail);done))|(refine⟨ABlk.le_of_eq ?_,?_⟩;focus ((first|exact congrArg intV hw2|fail);done))|fail)|fail)
    ·skip
     repeat' (first|exact trivial|((conv=>whnf);first|exact trivial|refine⟨AV.le_refl _,?_⟩|refine⟨ABlk.le_refl _,?_⟩|fail)|fail)
 ·have hend:((s.f x).k==3)=endB (s.f x):=by have h2:(s.f x).k≠2:=h2;simp [endB,h2]
  conv=>whnf
  refine loop_up (ι:=Nat) [2,7,9,10,11] (fun k=>[(12,.p (.bool (endB (s.f x)))),(13,intV k)]) (fun _=>[]) (fun k=>k≤L.length) (fun k=>L.length - k) 0 ⟨AV.le_of_eq (congrArg (fun b=>AV.p (.bool b)) hend),AV.le_refl _,trivial⟩ trivial (Nat.zero_le _) ?_
  rintro Z hlz k hk2 ihz
  conv=>whnf
  refine two_dec (fun hkl=>?_) (fun hkl=>?_)
  rotate_left
  ·conv=>whnf
   refine hle _ _ (Le.cutEnv 1 rfl rfl ⟨rfl,trivial⟩ ?_ ?_) (ih (i+1) (by omega) (by omega))
   ·skip
    repeat' (first|exact trivial|((conv=>whnf);first|exact trivial|refine⟨AV.le_refl _,?_⟩|refine⟨ABlk.le_refl _,?_⟩|(refine⟨AV.le_of_eq ?_,?_⟩;focus ((first|exact congrArg intV hw1|fail);done))|(refine⟨ABlk.le_of_eq ?_,?_⟩;focus ((first|exact congrArg intV hw1|fail);done))|fail)|fail)
   ·skip
    repeat' (first|exact trivial|((conv=>whnf);first|exact trivial|refine⟨AV.le_refl _,?_⟩|refine⟨ABlk.le_refl _,?_⟩|fail)|fail)
  have hkl:k<L.length:=by have h:(k:Int)<(L.length:Int):=hkl;omega
  have hw2:=wzz (i:=k) (by omega)
  have hkl':(k:Int)<(L.length:Int):=by omega
  have hv:=hW i k h hkl
  obtain⟨z,hz⟩:∃ z,L.getD k 0=z:=⟨_,rfl⟩
  have hkidz:kidF L (Int.toNat (k:Int))=[.int .i64 z]:=by rw [Int.toNat_natCast];unfold kidF;rw [hz]
  rw [hz,hx,Int.toNat_natCast] at hv
  conv=>whnf
  refine loop_up (ι:=Nat) [2,4,7,9,10,11,12,13] (fun j=>[(14,.p (.bool (alT M (s.f x) z j))),(15,intV j)]) (fun _=>[]) (fun j=>j≤(s.f x).nx.length) (fun j=>(s.f x).nx.length - j) 0 ⟨AV.le_of_eq (congrArg (fun b=>AV.p (.bool b)) (alT_zero M (s.f x) z).symm),AV.le_refl _,trivial⟩ trivial (Nat.zero_le _) ?_
  rintro X hlx j hj ihx
  conv=>whnf
  refine two_dec (fun hjl=>?_) (fun hjl=>?_)
  ·have hjl:j<(s.f x).nx.length:=by have h:(j:Int)<((s.f x).nx.length:Int):=hjl;omega
   have hw3:=wzz (i:=j) (by have:=hs.nx x hxn;omega)
   have hjl':(j:Int)<((s.f x).nx.length:Int):=by omega
   have hsc:=alT_succ (M:=M) (g:=s.f x) (z:=z) hjl
   conv=>whnf
   refine two_intro (fun hb=>?_) (fun hb=>?_)
   ·have hb:alT M (s.f x) z j=true:=hb
    have hb2:passM M ((s.f x).nx.getD j 0) z=alT M (s.f x) z (j+1):=by rw [hsc,hb,Bool.true_and]
    conv=>whnf
    refine Chk.mk ⟨Int.natCast_nonneg j,hjl',rfl⟩ ?_
    conv=>whnf
    refine Chk.mk ⟨Int.natCast_nonneg k,hkl',rfl⟩ ?_
    conv in (kidF L _)=>rw [hkidz]
    conv=>whnf
    refine⟨M,(s.f x).nx.getD j 0,z,_,rfl,hk1,rfl,?_⟩
    conv=>whnf
    refine hlx _ _ (Le.env ?_ ?_) (ihx (j+1) (by omega) (by omega))
    ·skip
     repeat' (first|exact trivial|((conv=>whnf);first|exact trivial|refine⟨AV.le_refl _,?_⟩|refine⟨ABlk.le_refl _,?_⟩|(refine⟨AV.le_of_eq ?_,?_⟩;focus ((first|exact congrArg intV hw3|exact congrArg (fun b=>AV.p (.bool b)) hb2|fail);done))|(refine⟨ABlk.le_of_eq ?_,?_⟩;focus ((first|exact congrArg intV hw3|exact congrArg (fun b=>AV.p (.bool b)) hb2|fail);done))|fail)|fail)
    ·skip
     repeat' (first|exact trivial|((conv=>whnf);first|exact trivial|refine⟨AV.le_refl _,?_⟩|refine⟨ABlk.le_refl _,?_⟩|fail)|fail)
   ·have hb:alT M (s.f x) z j=false:=hb
    have hb2:false=alT M (s.f x) z (j+1):=by rw [hsc,hb,Bool.false_and]
    conv=>whnf
    refine hlx _ _ (Le.env ?_ ?_) (ihx (j+1) (by omega) (by omega))
    ·skip
     repeat' (first|exact trivial|((conv=>whnf);first|exact trivial|refine⟨AV.le_refl _,?_⟩|refine⟨ABlk.le_refl _,?_⟩|(refine⟨AV.le_of_eq ?_,?_⟩;focus ((first|exact congrArg intV hw3|exact congrArg (fun b=>AV.p (.bool b)) hb2|fail);done))|(refine⟨ABlk.le_of_eq ?_,?_⟩;focus ((first|exact congrArg intV hw3|exact congrArg (fun b=>AV.p (.bool b)) hb2|fail);done))|fail)|fail)
    ·skip
     repeat' (first|exact trivial|((conv=>whnf);first|exact trivial|refine⟨AV.le_refl _,?_⟩|refine⟨ABlk.le_refl _,?_⟩|fail)|fail)
  obtain rfl:j=(s.f x).nx.length:=by have h:¬ (j:Int)<((s.f x).nx.length:Int):=hjl;omega
  conv=>whnf
  refine two_ne (fun hra=>?_) (fun hra=>?_)
  ·have hra:(s.f x).ra≠-1:=hra
   have har:alR M (s.f x) z=(alT M (s.f x) z (s.f x).nx.length&&passM M (s.f x).ra z):=by unfold alR;rw [if_neg hra]
   conv=>whnf
   refine two_intro (fun hb=>?_) (fun hb=>?_)
   ·have hb:alT M (s.f x) z (s.f x).nx.length=true:=hb
    rw [har,hb,Bool.true_and] at hv
    conv=>whnf
    refine Chk.mk ⟨Int.natCast_nonneg k,hkl',rfl⟩ ?_
    conv in (kidF L _)=>rw [hkidz]
    conv=>whnf
    refine⟨M,(s.f x).ra,z,_,rfl,hk1,rfl,?_⟩
    conv=>whnf
    refine Chk.mk ⟨Int.natCast_nonneg i,hil,rfl⟩ ?_
    conv in (kidF L _)=>rw [hkid]
    conv=>whnf
    refine Chk.mk ⟨Int.natCast_nonneg k,hkl',rfl⟩ ?_
    conv in (kidF L _)=>rw [hkidz]
    conv=>whnf
    refine⟨M,(x:Int),z,_,rfl,hk1,hv,?_⟩
    conv=>whnf
    refine two_intro (fun hb3=>?_) (fun hb3=>?_)
    ·skip
     conv=>whnf
     refine two_false (show (!(((passM M (s.f x).ra z) || (x:Int)==z)==true))=false by rw [show (passM M (s.f x).ra z)=true from hb3];rfl) ?_
     conv=>whnf
     refine hlz _ _ (Le.env ?_ ?_) (ihz (k+1) (by omega) (by omega))
     ·skip
      repeat' (first|exact trivial|((conv=>whnf);first|exact trivial|refine⟨AV.le_refl _,?_⟩|refine⟨ABlk.le_refl _,?_⟩|(refine⟨AV.le_of_eq ?_,?_⟩;focus ((first|exact congrArg intV hw2|fail);done))|(refine⟨ABlk.le_of_eq ?_,?_⟩;focus ((first|exact congrArg intV hw2|fail);done))|fail)|fail)
     ·skip
      repeat' (first|exact trivial|((conv=>whnf);first|exact trivial|refine⟨AV.le_refl _,?_⟩|refine⟨ABlk.le_refl _,?_⟩|fail)|fail)
    ·skip
     conv=>whnf
     refine Chk.mk ⟨Int.natCast_nonneg i,hil,rfl⟩ ?_
     conv in (kidF L _)=>rw [hkid]
     conv=>whnf
     refine Chk.mk ⟨Int.natCast_nonneg k,hkl',rfl⟩ ?_
     conv in (kidF L _)=>rw [hkidz]
     conv=>whnf
     refine two_false (show (!(((passM M (s.f x).ra z) || (x:Int)==z)==((x:Int)==z)))=false by rw [show (passM M (s.f x).ra z)=false from hb3];cases ((x:Int)==z)<;>rfl) ?_
     conv=>whnf
     refine hlz _ _ (Le.env ?_ ?_) (ihz (k+1) (by omega) (by omega))
     ·skip
      repeat' (first|exact trivial|((conv=>whnf);first|exact trivial|refine⟨AV.le_refl _,?_⟩|refine⟨ABlk.le_refl _,?_⟩|(refine⟨AV.le_of_eq ?_,?_⟩;focus ((first|exact congrArg intV hw2|fail);done))|(refine⟨ABlk.le_of_eq ?_,?_⟩;focus ((first|exact congrArg intV hw2|fail);done))|fail)|fail)
     ·skip
      repeat' (first|exact trivial|((conv=>whnf);first|exact trivial|refine⟨AV.le_refl _,?_⟩|refine⟨ABlk.le_refl _,?_⟩|fail)|fail)
   ·have hb:alT M (s.f x) z (s.f x).nx.length=false:=hb
    rw [har,hb,Bool.false_and] at hv
    conv=>whnf
    refine Chk.mk ⟨Int.natCast_nonneg i,hil,rfl⟩ ?_
    conv in (kidF L _)=>rw [hkid]
    conv=>whnf
    refine Chk.mk ⟨Int.natCast_nonneg k,hkl',rfl⟩ ?_
    conv in (kidF L _)=>rw [hkidz]
    conv=>whnf
    refine⟨M,(x:Int),z,_,rfl,hk1,hv,?_⟩
    conv=>whnf
    have hb3:false=false:=rfl
    refine Chk.mk ⟨Int.natCast_nonneg i,hil,rfl⟩ ?_
    conv in (kidF L _)=>rw [hkid]
    conv=>whnf
    refine Chk.mk ⟨Int.natCast_nonneg k,hkl',rfl⟩ ?_
    conv in (kidF L _)=>rw [hkidz]
    conv=>whnf
    refine two_false (show (!((false || (x:Int)==z)==((x:Int)==z)))=false by rw [show false=false from hb3];cases ((x:Int)==z)<;>rfl) ?_
    conv=>whnf
    refine hlz _ _ (Le.env ?_ ?_) (ihz (k+1) (by omega) (by omega))
    ·skip
     repeat' (first|exact trivial|((conv=>whnf);first|exact trivial|refine⟨AV.le_refl _,?_⟩|refine⟨ABlk.le_refl _,?_⟩|(refine⟨AV.le_of_eq ?_,?_⟩;focus ((first|exact congrArg intV hw2|fail);done))|(refine⟨ABlk.le_of_eq ?_,?_⟩;focus ((first|exact congrArg intV hw2|fail);done))|fail)|fail)
    ·skip
     repeat' (first|exact trivial|((conv=>whnf);first|exact trivial|refine⟨AV.le_refl _,?_⟩|refine⟨ABlk.le_refl _,?_⟩|fail)|fail)
  ·have hra:(s.f x).ra=-1:=hra
   have har:alR M (s.f x) z=alT M (s.f x) z (s.f x).nx.length:=by unfold alR;rw [if_pos hra]
   rw [har] at hv
   conv=>whnf
   refine Chk.mk ⟨Int.natCast_nonneg i,hil,rfl⟩ ?_
   conv in (kidF L _)=>rw [hkid]
   conv=>whnf
   refine Chk.mk ⟨Int.natCast_nonneg k,hkl',rfl⟩ ?_
   conv in (kidF L _)=>rw [hkidz]
   conv=>whnf
   refine⟨M,(x:Int),z,_,rfl,hk1,hv,?_⟩
   conv=>whnf
   refine two_intro (fun hb3=>?_) (fun hb3=>?_)
   ·skip
    conv=>whnf
    refine two_false (show (!(((alT M (s.f x) z (s.f x).nx.length) || (x:Int)==z)==true))=false by rw [show (alT M (s.f x) z (s.f x).nx.length)=true from hb3];rfl) ?_
    conv=>whnf
    refine hlz _ _ (Le.env ?_ ?_) (ihz (k+1) (by omega) (by omega))
    ·skip
     repeat' (first|exact trivial|((conv=>whnf);first|exact trivial|refine⟨AV.le_refl _,?_⟩|refine⟨ABlk.le_refl _,?_⟩|(refine⟨AV.le_of_eq ?_,?_⟩;focus ((first|exact congrArg intV hw2|fail);done))|(refine⟨ABlk.le_of_eq ?_,?_⟩;focus ((first|exact congrArg intV hw2|fail);done))|fail)|fail)
    ·skip
     repeat' (first|exact trivial|((conv=>whnf);first|exact trivial|refine⟨AV.le_refl _,?_⟩|refine⟨ABlk.le_refl _,?_⟩|fail)|fail)
   ·skip
    conv=>whnf
    refine Chk.mk ⟨Int.natCast_nonneg i,hil,rfl⟩ ?_
    conv in (kidF L _)=>rw [hkid]
    conv=>whnf
    refine Chk.mk ⟨Int.natCast_nonneg k,hkl',rfl⟩ ?_
    conv in (kidF L _)=>rw [hkidz]
    conv=>whnf
    refine two_false (show (!(((alT M (s.f x) z (s.f x).nx.length) || (x:Int)==z)==((x:Int)==z)))=false by rw [show (alT M (s.f x) z (s.f x).nx.length)=false from hb3];cases ((x:Int)==z)<;>rfl) ?_
    conv=>whnf
    refine hlz _ _ (Le.env ?_ ?_) (ihz (k+1) (by omega) (by omega))
    ·skip
     repeat' (first|exact trivial|((conv=>whnf);first|exact trivial|refine⟨AV.le_refl _,?_⟩|refine⟨ABlk.le_refl _,?_⟩|(refine⟨AV.le_of_eq ?_,?_⟩;focus ((first|exact congrArg intV hw2|fail);done))|(refine⟨ABlk.le_of_eq ?_,?_⟩;focus ((first|exact congrArg intV hw2|fail);done))|fail)|fail)
    ·skip
     repeat' (first|exact trivial|((conv=>whnf);first|exact trivial|refine⟨AV.le_refl _,?_⟩|refine⟨ABlk.le_refl _,?_⟩|fail)|fail)
end Go.Proofs.YtcmepkfefoidcaaGreatDoor
