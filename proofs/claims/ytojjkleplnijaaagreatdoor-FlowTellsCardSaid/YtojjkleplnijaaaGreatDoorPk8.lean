/-
  On the way to flowTells_card: part 8 of 11.
-/
import Derived.Test.YtojjkleplnijaaaGreatDoorPk1
import Derived.Test.YtojjkleplnijaaaGreatDoorPk5
import Derived.Test.YtojjkleplnijaaaGreatDoorPk7
set_option linter.unusedVariables false
set_option linter.unusedSimpArgs false
namespace Go.Ru
def arithW:List Bs:=[[43],[45],[42],[47],[37]]
theorem arith_any (t:Bs):arithW.any (·==t)=arith t:=by
 have c:∀ a:Bs,(a==t)=(t==a):=fun a=>Bool.eq_iff_iff.2 (by rw [beq_iff_eq,beq_iff_eq];exact eq_comm)
 simp only [arithW,arith,List.any_cons,List.any_nil,Bool.or_false,c [43],c [45],c [42],c [47],c [37],Bool.or_assoc]
end Go.Ru
namespace Go.Proofs.YtojjkleplnijaaaGreatDoor
open Go.AE Go.Ru
set_option maxRecDepth 100000
set_option maxHeartbeats 1000000
def cRparams:AC:=fun args K k=>∃ ns root p' p v,args=[treeV ns root,intV p']∧p'=((p:Nat):Int)∧RightT ns root∧p<ns.length∧paramsS ns p=v∧k (.ret (intsV v)) K
theorem rparams_ok:COk 52 cRparams:=by
 rintro args K k ⟨ns,root,_,p,v,rfl,rfl,rt,hp,rfl,hk⟩
 have hlen:=rt.len
 have hmany:=rt.many p hp
 have hin:=rt.inr hp
 refine frame0W g0_ok 19 rfl fun Q hr=>?_
 conv=>whnf
 refine⟨⟨by omega,by omega,rfl⟩,?_⟩
 conv=>whnf
 refine loop_nil (ι:=KC) 3 1 (fun i=>pvs (kidF [] i)) (fun c=>⟨[(2,.ptr 0 0 1 0 0),(6,intsV (nd ns p).kids),(7,intV c.j),(5,.slr 1 0 0 c.l.length)],[tbx ns root,kiB c.l]⟩)
  (fun c=>c.j≤(nd ns p).kids.length∧c.l.length≤c.j∧c.l++parsL ns ((nd ns p).kids.drop c.j)=paramsS ns p) (fun c=>(nd ns p).kids.length - c.j) ⟨0,[]⟩ [tbx ns root]
  rfl ⟨.inl (AV.le_refl _),.inl (AV.le_refl _),.inl (AV.le_refl _),.inr ⟨rfl,rfl⟩,trivial⟩ ⟨.inl (ABlk.le_refl _),trivial⟩ rfl ⟨Nat.zero_le _,Nat.le_refl _,rfl⟩ ?_
 rintro Y hle ⟨j,l⟩ ⟨hj,hl,he⟩ ih
 simp only at hj hl he
 conv=>whnf
 refine two_dec (fun h=>?_) (fun h=>?_)
 ·have h:j<(nd ns p).kids.length:=by have h:(j:Int)<((nd ns p).kids.length:Int):=h;omega
  have h':(j:Int)<((nd ns p).kids.length:Int):=by omega
  have hw1:=wzz (i:=j) (by omega)
  have hq:=hin _ (getD_mem h)
  rw [List.drop_eq_getElem_cons h] at he
  have e1:(nd ns p).kids.getD j 0=(nd ns p).kids[j]:=by simp [h]
  rw [← e1] at he
  conv=>whnf
  refine⟨⟨by omega,h',rfl⟩,?_⟩
  conv=>whnf
  refine⟨⟨hq.1,hq.2,rfl⟩,?_⟩
  conv=>whnf
  refine two_eq (fun h4=>?_) (fun h4=>?_)
  ·have h4:(nd ns ((nd ns p).kids.getD j 0).toNat).k=4:=h4
   have he:(l++[(nd ns ((nd ns p).kids.getD j 0).toNat).n])++parsL ns ((nd ns p).kids.drop (j+1))=paramsS ns p:=by
    rw [← he];simp only [parsL,List.filter_cons];rw [h4];simp
   conv=>whnf
   refine⟨⟨by omega,h',rfl⟩,?_⟩
   conv=>whnf
   refine⟨⟨hq.1,hq.2,rfl⟩,?_⟩
   conv=>whnf
   refine⟨⟨rfl,rfl,rfl,allLt_ok ⟨trivial,rfl⟩⟩,?_⟩
   conv=>whnf
   refine⟨⟨rfl,rfl,rfl,rfl,?_,?_⟩,?_⟩
   ·show (l.length+1)*8≤140737488355328
    omega
   ·show l.length+1≤9223372036854775807
    omega
   conv=>whnf
   refine hle _ _ (Le.cutEnv 2 rfl rfl ⟨rfl,kiB_cl l _ _ 2 rfl,trivial⟩ ?_ ?_) (ih ⟨j+1,l++[(nd ns ((nd ns p).kids.getD j 0).toNat).n]⟩ (by show _ - (j+1)<_ - j;omega) ⟨h,by simp;omega,he⟩)
   ·skip
    repeat' (first|exact trivial|((conv=>whnf);first|exact trivial|refine⟨AV.le_refl _,?_⟩|refine⟨ABlk.le_refl _,?_⟩|(refine⟨AV.le_of_eq ?_,?_⟩;focus ((first|exact congrArg intV hw1|exact congrArg (fun n=>AV.slr 1 0 0 n) (by simp)|fail);done))|(refine⟨ABlk.le_of_eq ?_,?_⟩;focus ((first|exact congrArg intV hw1|exact congrArg (fun n=>AV.slr 1 0 0 n) (by simp)|fail);done))|fail)|fail)
   ·(conv=>whnf)
    refine⟨ABlk.le_refl _,?_⟩
    (conv=>whnf)
    refine⟨kiB_snoc l _ _ rfl,?_⟩
    trivial
  ·have h4:(nd ns ((nd ns p).kids.getD j 0).toNat).k≠4:=h4
   have he:l++parsL ns ((nd ns p).kids.drop (j+1))=paramsS ns p:=by
    rw [← he];simp only [parsL,List.filter_cons];rw [beq_eq_false_iff_ne.2 h4];rfl
   conv=>whnf
   refine hle _ _ (Le.cutEnv 2 rfl rfl ⟨rfl,fun _ _=>rfl,trivial⟩ ?_ ?_) (ih ⟨j+1,l⟩ (by show _ - (j+1)<_ - j;omega) ⟨h,by show l.length≤j+1;omega,he⟩)
   ·skip
    repeat' (first|exact trivial|((conv=>whnf);first|exact trivial|refine⟨AV.le_refl _,?_⟩|refine⟨ABlk.le_refl _,?_⟩|(refine⟨AV.le_of_eq ?_,?_⟩;focus ((first|exact congrArg intV hw1|fail);done))|(refine⟨ABlk.le_of_eq ?_,?_⟩;focus ((first|exact congrArg intV hw1|fail);done))|fail)|fail)
   ·skip
    repeat' (first|exact trivial|((conv=>whnf);first|exact trivial|refine⟨AV.le_refl _,?_⟩|refine⟨ABlk.le_refl _,?_⟩|fail)|fail)
 ·obtain rfl:j=(nd ns p).kids.length:=by have h:¬ (j:Int)<((nd ns p).kids.length:Int):=h;omega
  rw [List.drop_length] at he
  simp only [parsL,List.filter_nil,List.map_nil,List.append_nil] at he
  subst he
  conv=>whnf
  exact hr _ _ _ _ (Wk1.freeze (r:=1) rfl (kidF (paramsS ns p)) (fun _ _=>rfl)) rfl hk
def cRplain:AC:=fun args K k=>∃ ns root p' p v,args=[treeV ns root,intV p']∧p'=((p:Nat):Int)∧RightT ns root∧p<ns.length∧tplainS ns p=v∧k (.ret (.p (.bool v))) K
theorem rplain_ok:COk 58 cRplain:=by
 rintro args K k ⟨ns,root,_,p,v,rfl,rfl,rt,hp,rfl,hk⟩
 unfold tplainS at hk
 obtain⟨l,hl⟩:∃ l,paramsS ns p=l:=⟨_,rfl⟩
 rw [hl] at hk
 have h1:(l==[1])=(decide ((l.length:Int)=1)&&decide (l.getD 0 0=1)):=by
  match l with
  | []=>rfl
  | [a]=>rw [Bool.eq_iff_iff];simp
  | a::b::r =>
   rw [decide_eq_false (by simp only [List.length_cons];omega),Bool.false_and]
   exact beq_eq_false_iff_ne.2 (by simp)
 rw [h1] at hk
 refine frame0P (gput_ok rparams_ok g0_ok) 19 rfl fun Q hr=>?_
 conv=>whnf
 refine⟨ns,root,_,p,l,rfl,rfl,rt,hp,hl,?_⟩
 conv=>whnf
 refine two_eq (fun h2=>?_) (fun h2=>?_)
 ·have h2:(l.length:Int)=1:=h2
  rw [decide_eq_true h2,Bool.true_and] at hk
  conv=>whnf
  refine⟨⟨by omega,by omega,rfl⟩,?_⟩
  conv=>whnf
  refine two_eq (fun h3=>?_) (fun h3=>?_)
  ·have h3:l.getD 0 0=1:=h3
   rw [decide_eq_true h3,Bool.true_and] at hk
   conv=>whnf
   refine⟨⟨by omega,by omega,rfl⟩,?_⟩
   conv=>whnf
   exact hr _ _ rfl hk
  ·have h3:l.getD 0 0≠1:=h3
   rw [decide_eq_false h3,Bool.false_and] at hk
   conv=>whnf
   exact hr _ _ rfl hk
 ·have h2:(l.length:Int)≠1:=h2
  rw [decide_eq_false h2,Bool.false_and,Bool.false_and] at hk
  conv=>whnf
  exact hr _ _ rfl hk
def strsP (l:List Bs):AV:=.p (.sl 1 l.length (strF l))
def cRamong:AC:=fun args K k=>∃ l s b,args=[strsP l,.p (.str s)]∧List.length l<1000000∧l.any (·==s)=b∧k (.ret (.p (.bool b))) K
theorem ramong_ok:COk 63 cRamong:=by
 rintro args K k ⟨l,s,b,rfl,hl,rfl,hk⟩
 refine frame0P g0_ok 19 rfl fun Q hr=>?_
 conv=>whnf
 refine loop_up (ι:=Nat) [0,1] (fun i=>[(5,intV i)]) (fun _=>[]) (fun i=>i≤l.length∧(l.take i).any (·==s)=false) (fun i=>l.length - i) 0 ⟨AV.le_refl _,trivial⟩ trivial ⟨Nat.zero_le _,by simp⟩ ?_
 rintro Y hle i ⟨hi,ha⟩ ih
 conv=>whnf
 refine two_dec (fun h=>?_) (fun h=>?_)
 ·have h:i<l.length:=by have h:(i:Int)<(l.length:Int):=h;omega
  have h':(i:Int)<(l.length:Int):=by omega
  have hw1:=wzz (i:=i) (by omega)
  conv=>whnf
  refine⟨⟨by omega,h',rfl⟩,?_⟩
  conv=>whnf
  refine two_eq (fun h2=>?_) (fun h2=>?_)
  ·have h2:l.getD i []=s:=h2
   rw [any_at h h2] at hk
   conv=>whnf
   exact hr _ _ rfl hk
  ·have h2:l.getD i []≠s:=h2
   conv=>whnf
   refine hle _ _ (Le.env ?_ ?_) (ih (i+1) (by omega) ⟨by omega,any_succ h ha h2⟩)
   ·skip
    repeat' (first|exact trivial|((conv=>whnf);first|exact trivial|refine⟨AV.le_refl _,?_⟩|refine⟨ABlk.le_refl _,?_⟩|(refine⟨AV.le_of_eq ?_,?_⟩;focus ((first|exact congrArg intV hw1|fail);done))|(refine⟨ABlk.le_of_eq ?_,?_⟩;focus ((first|exact congrArg intV hw1|fail);done))|fail)|fail)
   ·skip
    repeat' (first|exact trivial|((conv=>whnf);first|exact trivial|refine⟨AV.le_refl _,?_⟩|refine⟨ABlk.le_refl _,?_⟩|fail)|fail)
 ·obtain rfl:i=l.length:=by have h:¬ (i:Int)<(l.length:Int):=h;omega
  rw [List.take_length] at ha
  rw [ha] at hk
  conv=>whnf
  exact hr _ _ rfl hk
def cRamongL:AC:=fun args K k=>∃ l r n f ty s b,args=[.slr r 0 0 n,.p (.str s)]∧nth K r=some (.arr ty 1 0 n f)∧n=List.length l∧(∀ i,i<n→f i=pvs (strF l i))∧List.length l<1000000∧l.any (·==s)=b∧k (.ret (.p (.bool b))) (setN K r .dead)
theorem ramongL_ok:COk 63 cRamongL:=by
 rintro args K k ⟨l,r,n,f,ty,s,b,rfl,hn,rfl,hf,hl,hb,hk⟩
 refine (ramong_ok [strsP l,.p (.str s)] (setN K r .dead) k ⟨l,s,b,rfl,hl,hb,hk⟩).pre fun w m Args hS hV=>?_
 obtain⟨m',h3,h4,h5⟩:=freeze_sl hS hn (strF l) hf
 refine⟨m',h3,h4,hV.1,fun i hi hi'=>?_⟩
 rcases i with _|_|i
 ·exact h5 _ (hV.2 0 hi hi')
 ·exact (hV.2 1 hi hi').mono h3
 ·simp at hi;omega
def gRt7:AG:=gput 114 cRkind (gput 63 cRamongL g0)
theorem gRt7_ok:GOk Tryz.prog gRt7:=gput_ok rkind_ok (gput_ok ramongL_ok g0_ok)
def cRtyped:AC:=fun args K k=>∃ ns root i' i v,args=[treeV ns root,intV i']∧i'=((i:Nat):Int)∧RightT ns root∧i<ns.length∧tyS ns root i=v∧k (.ret (intV v)) K
theorem rtyped_ok:COk 60 cRtyped:=by
 rintro args K k ⟨ns,root,_,i,v,rfl,rfl,rt,hi,rfl,hk⟩
 have hlen:=rt.len
 refine frame0P gRt7_ok 19 rfl fun Q hr=>?_
 have e:nd ns i=ns.getD ((i:Int)).toNat default:=rfl
 have hw5:∀ (f:Nat→List AV),f 0=[.p (.str [43])]→f 1=[.p (.str [45])]→f 2=[.p (.str [42])]→f 3=[.p (.str [47])]→f 4=[.p (.str [37])]→∀ j,j<5→f j=pvs (strF arithW j):=fun f h0 h1 h2 h3 h4 j hj=>by
  match j,hj with
  | 0,_=>exact h0
  | 1,_=>exact h1
  | 2,_=>exact h2
  | 3,_=>exact h3
  | 4,_=>exact h4
  | n+5,h=>exact absurd h (by omega)
 conv=>whnf
 refine⟨⟨by omega,by omega,rfl⟩,?_⟩
 conv=>whnf
 repeat' (first|((first|refine two_eq ?_ ?_|refine two_ne ?_ ?_|refine two_not ?_ ?_|refine two_dec ?_ ?_|refine two_intro ?_ ?_)<;>intro h<;>conv=>whnf)|(refine⟨ns,root,_,i,_,_,rfl,rfl,rt,hi,rfl,?_⟩;conv=>whnf)|(refine⟨arithW,_,5,_,_,_,_,rfl,rfl,rfl,hw5 _ rfl rfl rfl rfl rfl,by decide,arith_any _,?_⟩;conv=>whnf)|fail)
 all_goals refine hr _ _ rfl (ret_eq hk (congrArg intV ?_))
 all_goals clear hr hk
 all_goals unfold tyS
 all_goals rw [e]
 all_goals simp_all
end Go.Proofs.YtojjkleplnijaaaGreatDoor
namespace Go.Ru
end Go.Ru
namespace Go.Proofs.YtojjkleplnijaaaGreatDoor
open Go.AE Go.Ru
set_option maxRecDepth 100000
set_option maxHeartbeats 1000000
def tbox (ns:List Nd) (root:Int):ABlk:=.box 24 [.p (.sl 5 ns.length (nodeF ns)),.p (.int .i64 root)]
def cRaise (m:Nat):AC:=fun args K k=>∃ ns root i,args=[treeV ns root,intV ((i:Nat):Int)]∧Std ns root∧i<ns.length∧i<m∧k (.ret (.p (.bool (raisesN ns m i)))) K
def cRaise1 (m:Nat):AC:=fun args K k=>∃ ns root q X,args=[intV q,.ptr 0 0 1 0 0]∧K=tbox ns root::X∧Std ns root∧InR ns q∧q<m∧k (.ret (.p (.bool (exB (nd ns q.toNat).k&&raisesN ns m q.toNat)))) (tbox ns root::X)
theorem raise1_ok {m:Nat} (h:COk 71 (cRaise m)):COk 123 (cRaise1 m):=by
 rintro args K k ⟨ns,root,q,X,rfl,rfl,st,⟨h1,h2⟩,hm,hk⟩
 obtain⟨i,rfl⟩:∃ i:Nat,q=(i:Int):=⟨q.toNat,by omega⟩
 refine frameG (K0:=[tbox ns root]) (X:=X) (gput_ok h g0_ok) 19 rfl ⟨rfl,trivial⟩ fun Q hr=>?_
 conv=>whnf
 refine⟨⟨by omega,by omega,rfl⟩,?_⟩
 conv=>whnf
 have hno:exB (nd ns i).k=false→k (.ret (.p (.bool false))) (tbox ns root::X):=fun hx=>by
  rw [Int.toNat_natCast,hx] at hk;exact hk
 have hyes:exB (nd ns i).k=true→k (.ret (.p (.bool (raisesN ns m i)))) (tbox ns root::X):=fun hx=>by
  rw [Int.toNat_natCast,hx] at hk;exact hk
 refine two_dec (fun h3=>?_) (fun h3=>?_)
 ·have h3:(nd ns i).k≥20:=h3
  conv=>whnf
  refine two_dec (fun h4=>?_) (fun h4=>?_)
  ·have h4:(nd ns i).k≤27:=h4
   conv=>whnf
   refine⟨ns,root,i,rfl,st,by omega,by omega,?_⟩
   conv=>whnf
   exact hr _ _ _ _ rfl rfl ⟨rfl,trivial⟩ (AV.le_refl _) (lesK.refl _) (hyes (exB_iff.2 ⟨h3,h4⟩))
  ·have h4:¬ (nd ns i).k≤27:=h4
   conv=>whnf
   exact hr _ _ _ _ rfl rfl ⟨rfl,trivial⟩ (AV.le_refl _) (lesK.refl _) (hno (by simp [exB,h4]))
 ·have h3:¬ (nd ns i).k≥20:=h3
  conv=>whnf
  exact hr _ _ _ _ rfl rfl ⟨rfl,trivial⟩ (AV.le_refl _) (lesK.refl _) (hno (by simp [exB];omega))
def rsP (ns:List Nd) (m:Nat) (q:Int):Bool:=exB (nd ns q.toNat).k&&raisesN ns m q.toNat
def cIdxRs (m:Nat):AC:=fun args K k=>∃ ns root l X,args=[intsV l,.fn 123 [] [.ptr 0 0 1 0 0]]∧K=tbox ns root::X∧Std ns root∧List.length l<1000000∧(∀ q∈l,InR ns q∧q<m) ∧
 k (.ret (intV (firstIx (rsP ns m) 0 l))) (tbox ns root::X)
theorem idxRs_ok {m:Nat} (h:COk 71 (cRaise m)):COk 166 (cIdxRs m):=by
 rintro args K k ⟨ns,root,l,X,rfl,rfl,st,hl,hq,hk⟩
 refine frameG (K0:=[tbox ns root]) (X:=X) (gput_ok (raise1_ok h) g0_ok) 19 rfl ⟨rfl,trivial⟩ fun Q hr=>?_
 conv=>whnf
 refine loop_up (ι:=Nat) [0,1,7] (fun i=>[(8,intV i)]) (fun _=>[]) (fun i=>i≤l.length∧firstIx (rsP ns m) i (l.drop i)=firstIx (rsP ns m) 0 l) (fun i=>l.length - i) 0 ⟨AV.le_refl _,trivial⟩ trivial ⟨Nat.zero_le _,rfl⟩ ?_
 rintro Y hle i ⟨hi,he⟩ ih
 conv=>whnf
 refine two_dec (fun h=>?_) (fun h=>?_)
 ·have h:i<l.length:=by have h:(i:Int)<(l.length:Int):=h;omega
  have hw1:=wzz (i:=i) (by omega)
  rw [List.drop_eq_getElem_cons h] at he
  have e1:l.getD i 0=l[i]:=by simp [h]
  have hm:=hq _ (List.getElem_mem h)
  rw [← e1] at he hm
  conv=>whnf
  refine⟨⟨by omega,by omega,rfl⟩,?_⟩
  conv=>whnf
  refine⟨ns,root,l.getD i 0,[],rfl,rfl,st,hm.1,hm.2,?_⟩
  conv=>whnf
  refine two_intro (fun h2=>?_) (fun h2=>?_)
  ·have h2:rsP ns m (l.getD i 0)=true:=h2
   simp only [firstIx,h2] at he
   conv=>whnf
   exact hr _ _ _ _ rfl rfl ⟨rfl,trivial⟩ (AV.le_refl _) (lesK.refl _) (he▸hk)
  ·have h2:rsP ns m (l.getD i 0)=false:=h2
   simp only [firstIx,h2] at he
   conv=>whnf
   refine hle _ _ (Le.env ?_ ?_) (ih (i+1) (by omega) ⟨by omega,he⟩)
   ·skip
    repeat' (first|exact trivial|((conv=>whnf);first|exact trivial|refine⟨AV.le_refl _,?_⟩|refine⟨ABlk.le_refl _,?_⟩|(refine⟨AV.le_of_eq ?_,?_⟩;focus ((first|exact congrArg intV hw1|fail);done))|(refine⟨ABlk.le_of_eq ?_,?_⟩;focus ((first|exact congrArg intV hw1|fail);done))|fail)|fail)
   ·skip
    repeat' (first|exact trivial|((conv=>whnf);first|exact trivial|refine⟨AV.le_refl _,?_⟩|refine⟨ABlk.le_refl _,?_⟩|fail)|fail)
 ·obtain rfl:i=l.length:=by have h:¬ (i:Int)<(l.length:Int):=h;omega
  rw [List.drop_length] at he
  rw [← he] at hk
  conv=>whnf
  exact hr _ _ _ _ rfl rfl ⟨rfl,trivial⟩ (AV.le_refl _) (lesK.refl _) hk
theorem raise_ok:∀ m,COk 71 (cRaise m):=by
 intro m
 induction m with
 | zero=>rintro args K k ⟨ns,root,i,h1,h2,h3,h4,h5⟩;omega
 | succ m ihm =>
 rintro args K k ⟨ns,root,i,rfl,st,hi,him,hk⟩
 have hkid:∀ q∈(nd ns i).kids,InR ns q∧q<m:=fun q hq=>by
  obtain⟨a,b,_⟩:=st.kid i hi q hq
  exact⟨⟨a,by omega⟩,by omega⟩
 have hmany:=st.many i hi
 have hlen:=st.len
 have hyes:riseB (nd ns i)=true→k (.ret (.p (.bool true))) K:=fun hx=>by
  simp only [raisesN,hx,Bool.true_or] at hk;exact hk
 have hno:riseB (nd ns i)=false→k (.ret (.p (.bool ((nd ns i).kids.any (rsP ns m))))) K:=fun hx=>by
  simp only [raisesN,hx,Bool.false_or] at hk;exact hk
 refine frame0P (gput_ok (idxRs_ok ihm) g0_ok) 19 rfl fun Q hr=>?_
 conv=>whnf
 refine⟨⟨by omega,by omega,rfl⟩,?_⟩
 conv=>whnf
 repeat' (first|(refine two_eq (fun h=>?_) (fun h=>?_)<;>conv=>whnf)|(refine⟨ns,root,(nd ns i).kids,_,rfl,rfl,st,by omega,hkid,?_⟩;conv=>whnf)|fail)
 all_goals try (exact hr _ _ rfl (hyes (by clear hr hk hno hyes;simp_all [riseB,nd])))
 all_goals first
  | (refine hr _ _ rfl (ret_eq (hno (by clear hr hk hno hyes;simp_all [riseB,nd])) (congrArg (fun b=>AV.p (.bool b)) ?_));exact (firstIx_any _ _ _).symm)
def eRaise:AC:=fun args K k=>∃ ns root i v,args=[treeV ns root,intV ((i:Nat):Int)]∧Std ns root∧i<ns.length∧raisesF ns i=v∧k (.ret (.p (.bool v))) K
theorem eRaise_ok:COk 71 eRaise:=by
 rintro args K k ⟨ns,root,i,v,h1,h2,h3,rfl,h4⟩
 exact raise_ok (i+1) args K k ⟨ns,root,i,h1,h2,h3,by omega,h4⟩
def gRaises:AG:=gput 9 eCheck (gput 71 eRaise g0)
theorem gRaises_ok:GOk Tryz.prog gRaises:=gput_ok eCheck_ok (gput_ok eRaise_ok g0_ok)
theorem check_right {ns:List Nd} {root a:Int} (h:checkTree ns root=(a,0)):rightS ns root=true:=by
 cases hr:rightS ns root with
 | true=>rfl
 | false=>simp [checkTree,hr] at h
def eRaises:AC:=fun args K k=>∃ ns root i v,args=[treeV ns root,intV i]∧Tame ns∧raisesT ns root i=v∧k (.ret (.p (.bool v))) K
theorem raises_ok:COk 31 eRaises:=by
 rintro args K k ⟨ns,root,i,v,rfl,ta,rfl,hk⟩
 obtain⟨a,e,hc⟩:∃ a e,checkTree ns root=(a,e):=⟨_,_,rfl⟩
 simp only [raisesT,hc] at hk
 refine frame0P gRaises_ok 19 rfl fun Q hr=>?_
 conv=>whnf
 refine⟨ns,root,a,e,rfl,ta,hc,?_⟩
 conv=>whnf
 refine two_ne (fun he=>?_) (fun he=>?_)
 ·have he:e≠0:=he
  conv=>whnf
  exact hr _ _ rfl (by rw [beq_eq_false_iff_ne.2 he] at hk;exact hk)
 have he:e=0:=he
 subst he
 have rt:=right_of (check_right hc)
 rw [beq_self_eq_true,Bool.true_and] at hk
 conv=>whnf
 refine two_dec (fun h0=>?_) (fun h0=>?_)
 ·have h0:i<0:=h0
  conv=>whnf
  exact hr _ _ rfl (by rw [decide_eq_false (by omega:¬ 0≤i)] at hk;exact hk)
 have h0:¬ i<0:=h0
 rw [decide_eq_true (by omega:0≤i),Bool.true_and] at hk
 conv=>whnf
 refine two_dec (fun h1=>?_) (fun h1=>?_)
 ·have h1:i≥(ns.length:Int):=h1
  conv=>whnf
  exact hr _ _ rfl (by rw [decide_eq_false (by omega:¬ i<(ns.length:Int))] at hk;exact hk)
 have h1:¬ i≥(ns.length:Int):=h1
 rw [decide_eq_true (by omega:i<(ns.length:Int)),Bool.true_and] at hk
 obtain⟨j,rfl⟩:∃ j:Nat,i=(j:Int):=⟨i.toNat,by omega⟩
 rw [Int.toNat_natCast] at hk
 conv=>whnf
 refine⟨⟨by omega,by omega,rfl⟩,?_⟩
 conv=>whnf
 have hE:∀ {b:Bool},(stB (nd ns j).k || exB (nd ns j).k)=b→(b=true→k (.ret (.p (.bool (raisesF ns j)))) K)∧(b=false→k (.ret (.p (.bool false))) K):=fun {b} hb=>by
  rw [hb] at hk
  exact⟨fun e=>by rw [e] at hk;exact hk,fun e=>by rw [e] at hk;exact hk⟩
 repeat' (first|(refine two_dec (fun h=>?_) (fun h=>?_)<;>conv=>whnf)|(refine⟨ns,root,j,_,rfl,rt.toStd,by omega,rfl,?_⟩;conv=>whnf)|fail)
 all_goals first
  | (exact hr _ _ rfl ((hE rfl).1 (by clear hr hk hE;simp_all [stB,exB,nd])))
  | (exact hr _ _ rfl ((hE rfl).2 (by clear hr hk hE;simp_all [stB,exB,nd]<;>omega)))
end Go.Proofs.YtojjkleplnijaaaGreatDoor
namespace Go.AE
theorem fsxK.refl (r sz n:Nat) (g:Nat→List PV) (Y:List ABlk):fsxK r sz n g Y Y:=by
 induction Y with
 | nil=>trivial
 | cons b Y ih=>exact⟨.inl (.inl (ABlk.le_refl _)),ih⟩
theorem Wk1.fz7 {N:Nat} {b0 b1 b2 b3 b4 b5 b5' b6:ABlk} {Y:List ABlk} {r ty sz n:Nat} {f:Nat→List AV} {a:AV} (g:Nat→List PV) (hr:nth Y r=some (.arr ty sz 0 n f)) (hg:∀ i,i<n→f i=pvs (g i))
  (h5:fsxB (r+7) sz n g b5 b5'):Wk1 N a (b0::b1::b2::b3::b4::b5::b6::Y) a (b0::b1::b2::b3::b4::b5'::b6::setN Y r .dead) :=
 Wk1.fzx (r:=r+7) g hr hg ⟨.inl (.inl (ABlk.le_refl _)),.inl (.inl (ABlk.le_refl _)),.inl (.inl (ABlk.le_refl _)),.inl (.inl (ABlk.le_refl _)),.inl (.inl (ABlk.le_refl _)),h5,.inl (.inl (ABlk.le_refl _)),fsxK.refl _ _ _ _ _⟩ (AV.le_refl _)
end Go.AE
namespace Go.Proofs.YtojjkleplnijaaaGreatDoor
open Go.AE Go.Ru
set_option maxRecDepth 100000
set_option maxHeartbeats 1000000
theorem frameZ {G:AG} (hG:GOk Tryz.prog G) (n:Nat) {f:FuncId} {args:List AV} {K0 X:List ABlk} {k:AO→List ABlk→Prop} (hcl:AV.cls K0.length args=true) (hK:clK K0.length K0)
  (h:∀ Q:AO→List ABlk→Prop,(∀ v K' v' K1 K2,Wk1 K0.length v K' v' (K1++K2)→v'.cl K0.length=true→K1.length=K0.length→clK K0.length K1→k (.ret v') (K1++X)→Q (.ret v) K')→acall1 T0 G n f args K0 Q) :
  ACalls Tryz.prog f args (K0++X) k:=by
 refine (ACalls.frame (K0:=K0) (k:=fun ao K1=>k ao (K1++X)) hcl (fun r _=>clK.hp hK r)
  (ACalls.post (k:=fun ao K'=>∃ v v' K1 K2,ao=.ret v∧Wk1 K0.length v K' v' (K1++K2)∧v'.cl K0.length=true∧K1.length=K0.length∧clK K0.length K1∧k (.ret v') (K1++X)) (call_ok hG n f args _ _ (h _ ?_)) ?_)).mono ?_
 ·intro v K' v' K1 K2 h1 h2 h3 h4 h5
  exact⟨v,v',K1,K2,rfl,h1,h2,h3,h4,h5⟩
 ·rintro _ K' ⟨v,v',K1,K2,rfl,h1,h2,h3,h4,h5⟩
  have e:∀ (K1 L:List ABlk),takeN (K1++L) K1.length=K1:=fun K1 L=>by
   induction K1 with
   | nil=>exact takeN_zero _
   | cons a l ih=>simp only [List.cons_append,List.length_cons,takeN];rw [ih]
  have e:=e K1 K2
  rw [h3] at e
  refine⟨v',K1++K2,h1,h2,?_,fun r hr=>?_,?_⟩
  ·simp [h3]
  ·rw [hp_append,if_pos (by omega)];exact clK.hp h4 r
  ·show k (.ret v') (takeN _ K0.length++X)
   rw [e];exact h5
 ·rintro ao K ⟨K1,rfl,h⟩;exact h
def nxP:List Int→PV
 | []=>.nils
 | a::l=>.sl 1 (l.length+1) (kidF (a::l))
def gnF (G:Nat→GN) (i:Nat):List PV:=[.int .i64 (G i).k,.int .i64 (G i).pl,.int .i64 (G i).pr,nxP (G i).nx,.int .i64 (G i).ra]
def gnW (G:Nat→GN) (i:Nat):List PV:=[.int .i64 (G i).k,.int .i64 (G i).pl,.int .i64 (G i).pr,.sl 1 (G i).nx.length (kidF (G i).nx),.int .i64 (G i).ra]
def gnA (n:Nat) (G:Nat→GN):ABlk:=.arr 53 5 0 n (fun i=>pvs (gnF G i))
def ofG (of:Int→Option Nat) (κ:MK):Option AV:=match κ with
 | .i q o=>if q=.i64 then (match of o with
  | some j=>some (intV (j:Int))
  | none=>none) else none
 | .s _=>none
def grB (n np:Nat):ABlk:=.box 42 [.slr 5 0 0 n,.slr 6 0 0 np]
def layB (ns:List Nd) (root ex:Int):ABlk:=.box 82 [.p (.sl 5 ns.length (nodeF ns)),.p (.int .i64 root),.ptr 2 0 1 0 0,.mref 3,intV ex]
def stK (ns:List Nd) (root:Int) (n:Nat) (G:Nat→GN) (of:Int→Option Nat) (ex:Int) (np:Nat) (pf:Nat→Int):List ABlk :=
 [tbox ns root,.box 42 [.p .nils,.p .nils],grB n np,.mp (.int .i64) (ofG of) [],layB ns root ex,gnA n G,rowA np pf]
theorem ofG_cl {of:Int→Option Nat} {n:Nat}:∀ κ a,ofG of κ=some a→AV.cl n a=true:=fun κ a h=>by
 unfold ofG at h
 split at h
 ·split at h
  ·split at h
   ·injection h with h;subst h;rfl
   ·cases h
  ·cases h
 ·cases h
theorem stK_cl {ns:List Nd} {root:Int} {n:Nat} {G:Nat→GN} {of:Int→Option Nat} {ex:Int} {np:Nat} {pf:Nat→Int}:clK 7 (stK ns root n G of ex np pf) :=
 ⟨rfl,rfl,rfl,ofG_cl,rfl,fun _ _=>rfl,fun _ _=>rfl,trivial⟩
def OfOk (ns:List Nd) (of:Int→Option Nat) (n p:Nat):Prop:=∀ i:Nat,lowS ns p<(i:Int)→i≤p→stB (nd ns i).k=true→∃ j,of (i:Int)=some j∧j<n
theorem OfOk.kid {ns:List Nd} {root:Int} {of:Int→Option Nat} {n p:Nat} (h:OfOk ns of n p) (rt:RightT ns root) (hp:p<ns.length) {q:Int} (hq:q∈(nd ns p).kids):OfOk ns of n q.toNat:=fun i h1 h2 h3=>by
 obtain⟨q0,q1,q2⟩:=rt.kid p hp q hq
 exact h i (by omega) (by omega) h3
def lpV:AV:=.ptr 4 0 1 0 0
def cFst (m:Nat):AC:=fun args K k=>∃ ns root n G of ex np pf p fo h X,args=[lpV,intV ((p:Nat):Int),intV fo,intV h]∧K=stK ns root n G of ex np pf++X∧RightT ns root∧p<ns.length∧p<m∧stB (nd ns p).k=true∧OfOk ns of n p ∧
 k (.ret (intV (flStmt ns of ex m p fo h G).1)) (stK ns root n (flStmt ns of ex m p fo h G).2 of ex np pf++X)
def cFbl (m:Nat):AC:=fun args K k=>∃ ns root n G of ex np pf p fo h X,args=[lpV,intV ((p:Nat):Int),intV fo,intV h]∧K=stK ns root n G of ex np pf++X∧RightT ns root∧p<ns.length∧p≤m∧(nd ns p).k=6∧OfOk ns of n p ∧
 k (.ret (intV (flBlock ns of ex m p fo h G).1)) (stK ns root n (flBlock ns of ex m p fo h G).2 of ex np pf++X)
structure FbC where
 j:Nat
 fo:Int
 G:Nat→GN
def eFst (m:Nat):AC:=fun args K k=>∃ (ns:List Nd) (root:Int) (n:Nat) (G:Nat→GN) (of:Int→Option Nat) (ex:Int) (np:Nat) (pf:Nat→Int) (p:Nat) (fo h:Int) (X:List ABlk) (p':Int) (b:Int) (G':Nat→GN),
 args=[lpV,intV p',intV fo,intV h]∧K=stK ns root n G of ex np pf++X∧p'=(p:Int)∧RightT ns root∧p<ns.length∧p<m∧stB (nd ns p).k=true∧OfOk ns of n p∧flStmt ns of ex m p fo h G=(b,G') ∧
 k (.ret (intV b)) (stK ns root n G' of ex np pf++X)
theorem eFst_ok {m:Nat} (h0:COk 118 (cFst m)):COk 118 (eFst m):=by
 rintro args K k ⟨ns,root,n,G,of,ex,np,pf,p,fo,h,X,_,b,G',h1,h2,rfl,rt,h3,h4,h5,h6,h7,h8⟩
 exact h0 args K k ⟨ns,root,n,G,of,ex,np,pf,p,fo,h,X,h1,h2,rt,h3,h4,h5,h6,by rw [h7];exact h8⟩
theorem fbl_ok {m:Nat} (ihm:COk 118 (cFst m)):COk 65 (cFbl m):=by
 rintro args K k ⟨ns,root,n,G,of,ex,np,pf,p,fo,h,X,rfl,rfl,rt,hp,hpm,hk6,hof,hk⟩
 refine frameZ (K0:=stK ns root n G of ex np pf) (gput_ok (eFst_ok ihm) g0_ok) 19 rfl stK_cl fun Q hr=>?_
 have hmany:=rt.many p hp
 have hlen:=rt.len
 obtain⟨ks,hks⟩:∃ ks,(nd ns p).kids=ks:=⟨_,rfl⟩
 rw [hks] at hmany
 have hkid:∀ q∈ks,0≤q∧q<p∧stB (nd ns q.toNat).k=true∧OfOk ns of n q.toNat:=fun q hq=>by
  rw [← hks] at hq
  obtain⟨a,b,_⟩:=rt.kid p hp q hq
  refine⟨a,b,?_,hof.kid rt hp hq⟩
  have:=rt.kidk hp hq
  simp only at this
  rcases this with h|h|h|h|h|h|h<;>first|exact h.2|omega
 simp only [flBlock,hks] at hk
 have hksr:(ns.getD p default).kids=ks:=hks
 have hwk:IntKind.i64.wrap (((ns.getD p default).kids.length:Int) - 1)=(ks.length:Int) - 1:=by rw [hksr];exact w64 ⟨by omega,by omega⟩
 conv=>whnf
 refine⟨⟨by omega,by omega,rfl⟩,?_⟩
 conv=>whnf
 refine loop_up (ι:=FbC) [0,1] (fun c=>[(3,intV ((c.j:Int) - 1))]) (fun c=>[(5,gnA n c.G),(8,.box 3 [intV c.fo])])
  (fun c=>c.j≤ks.length∧flRow (flStmt ns of ex m) h (ks.take c.j).reverse c.fo c.G=flRow (flStmt ns of ex m) h ks.reverse fo G) (fun c=>c.j) ⟨ks.length,fo,G⟩
  ⟨AV.le_of_eq (congrArg intV hwk),trivial⟩ ⟨upLe1 rfl (ABlk.le_refl _),upLe1 rfl (ABlk.le_refl _),trivial⟩ ⟨Nat.le_refl _,by simp only [List.take_length]⟩ ?_
 rintro Z hlz ⟨j,fo',G'⟩ ⟨hj,he⟩ ihz
 simp only at hj he
 conv=>whnf
 refine two_dec (fun hjj=>?_) (fun hjj=>?_)
 ·have hjj:(j:Int) - 1≥0:=hjj
  obtain⟨j,rfl⟩:∃ i,j=i+1:=⟨j - 1,by omega⟩
  obtain⟨q,hq⟩:∃ q,ks.getD j 0=q:=⟨_,rfl⟩
  have hlt:j<ks.length:=by omega
  have htk:(ks.take (j+1)).reverse=q::(ks.take j).reverse:=by
   rw [List.take_add_one,List.reverse_append,← hq,List.getD_eq_getElem?_getD,List.getElem?_eq_getElem hlt]
   rfl
  rw [htk] at he
  obtain⟨b,G2,hst⟩:∃ b G2,flStmt ns of ex m q.toNat fo' h G'=(b,G2):=⟨_,_,rfl⟩
  simp only [flRow,hst] at he
  obtain⟨q0,q1,q2,q3⟩:=hkid q (by rw [← hq,List.getD_eq_getElem?_getD,List.getElem?_eq_getElem hlt];exact List.getElem_mem hlt)
  have hqe:(ns.getD p default).kids.getD (((j+1:Nat):Int) - 1).toNat 0=(q.toNat:Int):=by
   rw [hksr,show (((j+1:Nat):Int) - 1).toNat=j by omega,hq];omega
  have hjq:IntKind.i64.wrap ((((j+1:Nat):Int) - 1) - 1)=(j:Int) - 1:=by rw [w64 ⟨by omega,by omega⟩];omega
  have hkl:(((j+1:Nat):Int) - 1)<((ns.getD p default).kids.length:Int):=by rw [hksr];omega
  conv=>whnf
  refine⟨⟨by omega,hkl,rfl⟩,?_⟩
  conv=>whnf
  refine⟨ns,root,n,G',of,ex,np,pf,q.toNat,fo',h,_,_,b,G2,rfl,rfl,hqe,rt,by omega,by omega,q2,q3,hst,?_⟩
  conv=>whnf
  refine hlz _ _ (Le.cutEnv 12 rfl rfl ⟨rfl,rfl,rfl,ofG_cl,rfl,fun _ _=>rfl,fun _ _=>rfl,rfl,rfl,rfl,rfl,rfl,trivial⟩ ?_ ?_) (ihz ⟨j,b,G2⟩ (Nat.lt_succ_self _) ⟨by simp only;omega,he⟩)
  ·skip
   repeat' (first|exact trivial|((conv=>whnf);first|exact trivial|refine⟨AV.le_refl _,?_⟩|refine⟨ABlk.le_refl _,?_⟩|(refine⟨AV.le_of_eq ?_,?_⟩;focus ((first|exact congrArg intV hjq|fail);done))|(refine⟨ABlk.le_of_eq ?_,?_⟩;focus ((first|exact congrArg intV hjq|fail);done))|fail)|fail)
  ·skip
   repeat' (first|exact trivial|((conv=>whnf);first|exact trivial|refine⟨AV.le_refl _,?_⟩|refine⟨ABlk.le_refl _,?_⟩|fail)|fail)
 ·have hjj:¬ (j:Int) - 1≥0:=hjj
  obtain rfl:j=0:=by omega
  simp only [List.take_zero,List.reverse_nil,flRow] at he
  rw [← he] at hk
  conv=>whnf
  exact hr _ _ _ (stK ns root n G' of ex np pf) _ (Wk1.refl _ _ _) rfl rfl stK_cl hk
theorem updF_eq {f:Nat→List AV} {a i:Nat} {c:List AV}:updF f a c i=if i=a then c else f i:=by
 unfold updF
 cases h:Nat.beq i a with
 | true=>rw [if_pos (Nat.eq_of_beq_eq_true h)]
 | false=>rw [if_neg (fun e=>by rw [e] at h;simp at h)]
theorem gn_upd {G:Nat→GN} {j a1 a2:Nat} {c1 c2:List AV} {v:AV} {ra:Int} (h1:a1=j) (h2:a2=j) (hc1:c1=[v]) (hc2:c2=[intV ra]) (i:Nat) :
  updF (updF (fun i=>pvs (gnF G i)) a1 (putCells ((fun i=>pvs (gnF G i)) a1) (0+3) c1)) a2 (putCells (updF (fun i=>pvs (gnF G i)) a1 (putCells ((fun i=>pvs (gnF G i)) a1) (0+3) c1) a2) (0+4) c2) i =
   if i=j then [intV (G j).k,intV (G j).pl,intV (G j).pr,v,intV ra] else pvs (gnF G i):=by
 subst h1 h2 hc1 hc2
 simp only [updF_eq,if_true]
 split
 ·rfl
 ·rfl
theorem gn_set {n:Nat} {G:Nat→GN} {j:Nat} {nx:List Int} {v:AV} {ra:Int} {f:Nat→List AV} (hv:v=.p (nxP nx)) (hf:∀ i,i<n→f i=if i=j then [intV (G j).k,intV (G j).pl,intV (G j).pr,v,intV ra] else pvs (gnF G i)) :
  (ABlk.arr 53 5 0 n f).le (gnA n (setG G j nx ra)):=by
 subst hv
 refine ABlk.arr_eq rfl fun i hi=>?_
 rw [hf i hi]
 by_cases e:i=j
 ·subst e;simp [gnF,setG,pvs,intV]
 ·simp [gnF,setG,e]
theorem gn_fz {n r len:Nat} {g:Nat→List PV} {G:Nat→GN} {j:Nat} {nx:List Int} {v:AV} {ra:Int} {f:Nat→List AV} (hv:v=.slr r 0 0 len) (hx:nxP nx=.sl 1 len g) (hf:∀ i,f i=if i=j then [intV (G j).k,intV (G j).pl,intV (G j).pr,v,intV ra] else pvs (gnF G i)) :
  ∀ i,i<n→fswL r 1 len g (f i) (pvs (gnF (setG G j nx ra) i)):=fun i _=>by
 subst hv
 rw [hf i]
 by_cases e:i=j
 ·subst e
  simp only [if_true,gnF,setG,hx,pvs]
  exact⟨.inl (AV.le_refl _),.inl (AV.le_refl _),.inl (AV.le_refl _),.inr ⟨rfl,rfl⟩,.inl (AV.le_refl _),trivial⟩
 ·simp only [e,if_false,gnF,setG]
  exact⟨.inl (AV.le_refl _),.inl (AV.le_refl _),.inl (AV.le_refl _),.inl (AV.le_refl _),.inl (AV.le_refl _),trivial⟩
theorem row2 {f:Nat→List AV} {g:Nat→List PV} (h0:f 0=pvs (g 0)) (h1:f 1=pvs (g 1)):∀ i,i<2→f i=pvs (g i):=fun i hi=>by
 rcases (by omega:i=0∨i=1) with rfl|rfl
 ·exact h0
 ·exact h1
theorem row1 {f:Nat→List AV} {g:Nat→List PV} (h0:f 0=pvs (g 0)):∀ i,i<1→f i=pvs (g i):=fun i hi=>by
 obtain rfl:i=0:=by omega
 exact h0
def eFblM (m:Nat):AC:=fun args K k=>∃ (ns:List Nd) (root:Int) (n:Nat) (G:Nat→GN) (of:Int→Option Nat) (ex:Int) (np:Nat) (pf:Nat→Int) (p:Nat) (fo h:Int) (X:List ABlk) (p':Int) (b:Int) (G':Nat→GN),
 args=[lpV,intV p',intV fo,intV h]∧K=stK ns root n G of ex np pf++X∧p'=(p:Int)∧RightT ns root∧p<ns.length∧p≤m∧(nd ns p).k=6∧OfOk ns of n p∧flBlock ns of ex m p fo h G=(b,G') ∧
 k (.ret (intV b)) (stK ns root n G' of ex np pf++X)
theorem fblE_ok {m:Nat} (h0:COk 118 (cFst m)):COk 65 (eFblM m):=by
 rintro args K k ⟨ns,root,n,G,of,ex,np,pf,p,fo,h,X,_,b,G',h1,h2,rfl,rt,h3,h4,h5,h6,h7,h8⟩
 exact fbl_ok h0 args K k ⟨ns,root,n,G,of,ex,np,pf,p,fo,h,X,h1,h2,rt,h3,h4,h5,h6,by rw [h7];exact h8⟩
theorem fst_ok:∀ m,COk 118 (cFst m):=by
 intro m
 induction m with
 | zero=>rintro args K k ⟨ns,root,n,G,of,ex,np,pf,p,fo,h,X,_,_,_,_,h,_⟩;omega
 | succ m ihm =>
 rintro args K k ⟨ns,root,n,G,of,ex,np,pf,p,fo,h,X,rfl,rfl,rt,hp,hpm,hst,hof,hk⟩
 obtain⟨j,hj,hjn⟩:=hof p (rt.self p hp).2 (Nat.le_refl _) hst
 have hat:atO of p=j:=by simp [atO,hj]
 simp only [flStmt,hat] at hk
 have hY:∀ a,ofG of (.i .i64 (p:Int))=some a→a=intV (j:Int):=fun a ha=>by simp [ofG,hj] at ha;exact ha.symm
 have hN:ofG of (.i .i64 (p:Int))=none→False:=fun hn=>by simp [ofG,hj] at hn
 have hlen:=rt.len
 have hkd:∀ q∈(nd ns p).kids,(nd ns q.toNat).k=6→(q.toNat<ns.length∧q.toNat≤m∧OfOk ns of n q.toNat∧q=(q.toNat:Int)):=fun q hq h6=>by
  obtain⟨q0,q1,_⟩:=rt.kid p hp q hq
  exact⟨by omega,by omega,hof.kid rt hp hq,by omega⟩
 obtain⟨ra,hrae⟩:∃ ra,(if raisesF ns p=true then h else -1)=ra:=⟨_,rfl⟩
 rw [hrae] at hk
 cases hrf:raisesF ns p
 all_goals
  rw [hrf] at hrae
  simp only [Bool.false_eq_true,reduceIte] at hrae
  by_cases k11:(nd ns p).k=11
  ·simp only [k11,reduceIte] at hk
   obtain⟨a,b,c,hks,_,hkb,hkc⟩:=rt.kids11 hp k11
   obtain⟨b1,G1,hb1⟩:∃ b1 G1,flBlock ns of ex m b.toNat fo h G=(b1,G1):=⟨_,_,rfl⟩
   obtain⟨b2,G2,hb2⟩:∃ b2 G2,flBlock ns of ex m c.toNat fo h G1=(b2,G2):=⟨_,_,rfl⟩
   have hk:k (.ret (intV (j:Int))) (stK ns root n (setG G2 j [b1,b2] ra) of ex np pf++X):=by
    simp only [flBlock] at hb1 hb2
    rw [hks] at hk
    simp only [List.getD_cons_succ,List.getD_cons_zero,hb1,hb2] at hk
    exact hk
   obtain⟨c1,c2,c3,c4⟩:=hkd b (by rw [hks];simp) hkb
   obtain⟨d1,d2,d3,d4⟩:=hkd c (by rw [hks];simp) hkc
   have hq1:(ns.getD p default).kids.getD 1 0=(b.toNat:Int):=by rw [show (ns.getD p default).kids=_ from hks];exact c4
   have hq2:(ns.getD p default).kids.getD 2 0=(c.toNat:Int):=by rw [show (ns.getD p default).kids=_ from hks];exact d4
   have hl1:(1:Int)<((ns.getD p default).kids.length:Int):=by rw [show (ns.getD p default).kids=_ from hks];simp
   have hl2:(2:Int)<((ns.getD p default).kids.length:Int):=by rw [show (ns.getD p default).kids=_ from hks];simp
   refine frameZ (K0:=stK ns root n G of ex np pf) (gput_ok (fblE_ok ihm) (gput_ok eRaise_ok g0_ok)) 19 rfl stK_cl fun Q hr=>?_
   conv=>whnf
   refine⟨⟨by omega,by omega,rfl⟩,?_⟩
   conv=>whnf
   refine⟨fun av ha=>?_,fun hn=>(hN hn).elim⟩
   obtain rfl:=hY av ha
   conv=>whnf
   repeat ((refine And.intro ?_ ?_);(focus ((conv=>whnf);first|done|exact⟨⟨by omega,by omega,rfl⟩,by conv=>whnf⟩|exact⟨fun a ha=>by obtain rfl:=hY a ha;(conv=>whnf),fun hn=>(hN hn).elim⟩));conv=>whnf)
   refine⟨ns,root,p,_,rfl,rt.toStd,hp,hrf,?_⟩
   conv=>whnf
   refine two_eq (fun _=>?_) (fun h=>absurd k11 h)
   conv=>whnf
   refine Chk.mk ⟨by decide,hl1,rfl⟩ ?_
   conv=>whnf
   refine Chk.mk ⟨by decide,hl2,rfl⟩ ?_
   conv=>whnf
   refine⟨ns,root,n,G,of,ex,np,pf,b.toNat,fo,h,_,_,b1,G1,rfl,rfl,hq1,rt,c1,c2,hkb,c3,hb1,?_⟩
   conv=>whnf
   repeat ((refine And.intro ?_ ?_);(focus ((conv=>whnf);first|done|exact⟨⟨by decide,hl2,rfl⟩,by conv=>whnf⟩));conv=>whnf)
   refine⟨ns,root,n,G1,of,ex,np,pf,c.toNat,fo,h,_,_,b2,G2,rfl,rfl,hq2,rt,d1,d2,hkc,d3,hb2,?_⟩
   conv=>whnf
   repeat' (first|(refine Chk.mk ⟨rfl,rfl⟩ ?_;conv=>whnf)|(refine Chk.mk ⟨rfl,Nat.zero_add _,by omega,by omega,rfl⟩ ?_;conv=>whnf)|((refine And.intro ?_ ?_);(focus ((conv=>whnf);first|done|exact⟨⟨rfl,Nat.zero_add _,by omega,by omega,rfl⟩,by conv=>whnf⟩));conv=>whnf)|(refine And.intro ?_ ?_<;>conv=>whnf)|fail)
   try rw [← hrae] at hk
   exact hr _ _ _ (stK ns root n (setG G2 j [b1,b2] _) of ex np pf) _ (Wk1.fz7 (r:=2) (kidF [b1,b2]) rfl (row2 rfl rfl) (.inr ⟨_,_,_,_,_,_,rfl,rfl,gn_fz rfl rfl fun i=>gn_upd (Nat.zero_add _) (Nat.zero_add _) rfl rfl i⟩)) rfl rfl stK_cl hk
  ·simp only [k11,if_false] at hk
   by_cases k12:(nd ns p).k=12
   ·simp only [k12,reduceIte] at hk
    obtain⟨a,b,hks,_,hkb⟩:=rt.kids12 hp k12
    obtain⟨b1,G1,hb1⟩:∃ b1 G1,flBlock ns of ex m b.toNat (j:Int) h G=(b1,G1):=⟨_,_,rfl⟩
    have hk:k (.ret (intV (j:Int))) (stK ns root n (setG G1 j [b1,fo] ra) of ex np pf++X):=by
     simp only [flBlock] at hb1
     rw [hks] at hk
     simp only [List.getD_cons_succ,List.getD_cons_zero,hb1] at hk
     exact hk
    obtain⟨c1,c2,c3,c4⟩:=hkd b (by rw [hks];simp) hkb
    have hq1:(ns.getD p default).kids.getD 1 0=(b.toNat:Int):=by rw [show (ns.getD p default).kids=_ from hks];exact c4
    have hl1:(1:Int)<((ns.getD p default).kids.length:Int):=by rw [show (ns.getD p default).kids=_ from hks];simp
    refine frameZ (K0:=stK ns root n G of ex np pf) (gput_ok (fblE_ok ihm) (gput_ok eRaise_ok g0_ok)) 19 rfl stK_cl fun Q hr=>?_
    conv=>whnf
    refine⟨⟨by omega,by omega,rfl⟩,?_⟩
    conv=>whnf
    refine⟨fun av ha=>?_,fun hn=>(hN hn).elim⟩
    obtain rfl:=hY av ha
    conv=>whnf
    repeat ((refine And.intro ?_ ?_);(focus ((conv=>whnf);first|done|exact⟨⟨by omega,by omega,rfl⟩,by conv=>whnf⟩|exact⟨fun a ha=>by obtain rfl:=hY a ha;(conv=>whnf),fun hn=>(hN hn).elim⟩));conv=>whnf)
    refine⟨ns,root,p,_,rfl,rt.toStd,hp,hrf,?_⟩
    conv=>whnf
    refine two_eq (fun h=>absurd (show (nd ns p).k=11 from h) (k11)) (fun _=>?_)
    conv=>whnf
    refine two_eq (fun _=>?_) (fun h=>absurd k12 h)
    conv=>whnf
    refine Chk.mk ⟨by decide,hl1,rfl⟩ ?_
    conv=>whnf
    refine⟨ns,root,n,G,of,ex,np,pf,b.toNat,(j:Int),h,_,_,b1,G1,rfl,rfl,hq1,rt,c1,c2,hkb,c3,hb1,?_⟩
    conv=>whnf
    repeat' (first|(refine Chk.mk ⟨rfl,rfl⟩ ?_;conv=>whnf)|(refine Chk.mk ⟨rfl,Nat.zero_add _,by omega,by omega,rfl⟩ ?_;conv=>whnf)|((refine And.intro ?_ ?_);(focus ((conv=>whnf);first|done|exact⟨⟨rfl,Nat.zero_add _,by omega,by omega,rfl⟩,by conv=>whnf⟩));conv=>whnf)|(refine And.intro ?_ ?_<;>conv=>whnf)|fail)
    try rw [← hrae] at hk
    exact hr _ _ _ (stK ns root n (setG G1 j [b1,fo] _) of ex np pf) _ (Wk1.fz7 (r:=2) (kidF [b1,fo]) rfl (row2 rfl rfl) (.inr ⟨_,_,_,_,_,_,rfl,rfl,gn_fz rfl rfl fun i=>gn_upd (Nat.zero_add _) (Nat.zero_add _) rfl rfl i⟩)) rfl rfl stK_cl hk
   simp only [k12,if_false] at hk
   by_cases k16:(nd ns p).k=16
   ·simp only [k16,reduceIte] at hk
    obtain⟨b,c,hks,hkb,hkc⟩:=rt.kids16 hp k16
    obtain⟨b1,G1,hb1⟩:∃ b1 G1,flBlock ns of ex m b.toNat fo (j:Int) G=(b1,G1):=⟨_,_,rfl⟩
    obtain⟨b2,G2,hb2⟩:∃ b2 G2,flBlock ns of ex m c.toNat fo h G1=(b2,G2):=⟨_,_,rfl⟩
    have hk:k (.ret (intV b1)) (stK ns root n (setG G2 j [b2] (-1)) of ex np pf++X):=by
     simp only [flBlock] at hb1 hb2
     rw [hks] at hk
     simp only [List.getD_cons_succ,List.getD_cons_zero,hb1,hb2] at hk
     exact hk
    obtain⟨c1,c2,c3,c4⟩:=hkd b (by rw [hks];simp) hkb
    obtain⟨d1,d2,d3,d4⟩:=hkd c (by rw [hks];simp) hkc
    have hq1:(ns.getD p default).kids.getD 0 0=(b.toNat:Int):=by rw [show (ns.getD p default).kids=_ from hks];exact c4
    have hq2:(ns.getD p default).kids.getD 1 0=(c.toNat:Int):=by rw [show (ns.getD p default).kids=_ from hks];exact d4
    have hl1:(0:Int)<((ns.getD p default).kids.length:Int):=by rw [show (ns.getD p default).kids=_ from hks];simp
    have hl2:(1:Int)<((ns.getD p default).kids.length:Int):=by rw [show (ns.getD p default).kids=_ from hks];simp
    refine frameZ (K0:=stK ns root n G of ex np pf) (gput_ok (fblE_ok ihm) (gput_ok eRaise_ok g0_ok)) 19 rfl stK_cl fun Q hr=>?_
    conv=>whnf
    refine⟨⟨by omega,by omega,rfl⟩,?_⟩
    conv=>whnf
    refine⟨fun av ha=>?_,fun hn=>(hN hn).elim⟩
    obtain rfl:=hY av ha
    conv=>whnf
    repeat ((refine And.intro ?_ ?_);(focus ((conv=>whnf);first|done|exact⟨⟨by omega,by omega,rfl⟩,by conv=>whnf⟩|exact⟨fun a ha=>by obtain rfl:=hY a ha;(conv=>whnf),fun hn=>(hN hn).elim⟩));conv=>whnf)
    refine⟨ns,root,p,_,rfl,rt.toStd,hp,hrf,?_⟩
    conv=>whnf
    refine two_eq (fun h=>absurd (show (nd ns p).k=11 from h) (k11)) (fun _=>?_)
    conv=>whnf
    refine two_eq (fun h=>absurd (show (nd ns p).k=12 from h) (k12)) (fun _=>?_)
    conv=>whnf
    refine two_eq (fun _=>?_) (fun h=>absurd k16 h)
    conv=>whnf
    refine Chk.mk ⟨by decide,hl1,rfl⟩ ?_
    conv=>whnf
    refine⟨ns,root,n,G,of,ex,np,pf,b.toNat,fo,(j:Int),_,_,b1,G1,rfl,rfl,hq1,rt,c1,c2,hkb,c3,hb1,?_⟩
    conv=>whnf
    refine Chk.mk ⟨by decide,hl2,rfl⟩ ?_
    conv=>whnf
    refine⟨ns,root,n,G1,of,ex,np,pf,c.toNat,fo,h,_,_,b2,G2,rfl,rfl,hq2,rt,d1,d2,hkc,d3,hb2,?_⟩
    conv=>whnf
    repeat' (first|(refine Chk.mk ⟨rfl,rfl⟩ ?_;conv=>whnf)|(refine Chk.mk ⟨rfl,Nat.zero_add _,by omega,by omega,rfl⟩ ?_;conv=>whnf)|((refine And.intro ?_ ?_);(focus ((conv=>whnf);first|done|exact⟨⟨rfl,Nat.zero_add _,by omega,by omega,rfl⟩,by conv=>whnf⟩));conv=>whnf)|(refine And.intro ?_ ?_<;>conv=>whnf)|fail)
    try rw [← hrae] at hk
    exact hr _ _ _ (stK ns root n (setG G2 j [b2] _) of ex np pf) _ (Wk1.fz7 (r:=2) (kidF [b2]) rfl (row1 rfl) (.inr ⟨_,_,_,_,_,_,rfl,rfl,gn_fz rfl rfl fun i=>gn_upd (Nat.zero_add _) (Nat.zero_add _) rfl rfl i⟩)) rfl rfl stK_cl hk
   simp only [k16,if_false] at hk
   by_cases k14:(nd ns p).k=14
   ·simp only [k14,reduceIte] at hk
    refine frameZ (K0:=stK ns root n G of ex np pf) (gput_ok (fblE_ok ihm) (gput_ok eRaise_ok g0_ok)) 19 rfl stK_cl fun Q hr=>?_
    conv=>whnf
    refine⟨⟨by omega,by omega,rfl⟩,?_⟩
    conv=>whnf
    refine⟨fun av ha=>?_,fun hn=>(hN hn).elim⟩
    obtain rfl:=hY av ha
    conv=>whnf
    repeat ((refine And.intro ?_ ?_);(focus ((conv=>whnf);first|done|exact⟨⟨by omega,by omega,rfl⟩,by conv=>whnf⟩|exact⟨fun a ha=>by obtain rfl:=hY a ha;(conv=>whnf),fun hn=>(hN hn).elim⟩));conv=>whnf)
    refine⟨ns,root,p,_,rfl,rt.toStd,hp,hrf,?_⟩
    conv=>whnf
    refine two_eq (fun h=>absurd (show (nd ns p).k=11 from h) (k11)) (fun _=>?_)
    conv=>whnf
    refine two_eq (fun h=>absurd (show (nd ns p).k=12 from h) (k12)) (fun _=>?_)
    conv=>whnf
    refine two_eq (fun h=>absurd (show (nd ns p).k=16 from h) (k16)) (fun _=>?_)
    conv=>whnf
    refine two_eq (fun _=>?_) (fun h=>absurd k14 h)
    conv=>whnf
    repeat' (first|(refine Chk.mk ⟨rfl,rfl⟩ ?_;conv=>whnf)|(refine Chk.mk ⟨rfl,Nat.zero_add _,by omega,by omega,rfl⟩ ?_;conv=>whnf)|((refine And.intro ?_ ?_);(focus ((conv=>whnf);first|done|exact⟨⟨rfl,Nat.zero_add _,by omega,by omega,rfl⟩,by conv=>whnf⟩));conv=>whnf)|(refine And.intro ?_ ?_<;>conv=>whnf)|fail)
    try rw [← hrae] at hk
    exact hr _ _ _ (stK ns root n (setG G j [ex] _) of ex np pf) _ (Wk1.fz7 (r:=2) (kidF [ex]) rfl (row1 rfl) (.inr ⟨_,_,_,_,_,_,rfl,rfl,gn_fz rfl rfl fun i=>gn_upd (Nat.zero_add _) (Nat.zero_add _) rfl rfl i⟩)) rfl rfl stK_cl hk
   simp only [k14,if_false] at hk
   by_cases k15:(nd ns p).k=15
   ·simp only [k15,reduceIte] at hk
    refine frameZ (K0:=stK ns root n G of ex np pf) (gput_ok (fblE_ok ihm) (gput_ok eRaise_ok g0_ok)) 19 rfl stK_cl fun Q hr=>?_
    conv=>whnf
    refine⟨⟨by omega,by omega,rfl⟩,?_⟩
    conv=>whnf
    refine⟨fun av ha=>?_,fun hn=>(hN hn).elim⟩
    obtain rfl:=hY av ha
    conv=>whnf
    repeat ((refine And.intro ?_ ?_);(focus ((conv=>whnf);first|done|exact⟨⟨by omega,by omega,rfl⟩,by conv=>whnf⟩|exact⟨fun a ha=>by obtain rfl:=hY a ha;(conv=>whnf),fun hn=>(hN hn).elim⟩));conv=>whnf)
    refine⟨ns,root,p,_,rfl,rt.toStd,hp,hrf,?_⟩
    conv=>whnf
    refine two_eq (fun h=>absurd (show (nd ns p).k=11 from h) (k11)) (fun _=>?_)
    conv=>whnf
    refine two_eq (fun h=>absurd (show (nd ns p).k=12 from h) (k12)) (fun _=>?_)
    conv=>whnf
    refine two_eq (fun h=>absurd (show (nd ns p).k=16 from h) (k16)) (fun _=>?_)
    conv=>whnf
    refine two_eq (fun h=>absurd (show (nd ns p).k=14 from h) (k14)) (fun _=>?_)
    conv=>whnf
    refine two_eq (fun _=>?_) (fun h=>absurd k15 h)
    conv=>whnf
    repeat' (first|(refine Chk.mk ⟨rfl,rfl⟩ ?_;conv=>whnf)|(refine Chk.mk ⟨rfl,Nat.zero_add _,by omega,by omega,rfl⟩ ?_;conv=>whnf)|((refine And.intro ?_ ?_);(focus ((conv=>whnf);first|done|exact⟨⟨rfl,Nat.zero_add _,by omega,by omega,rfl⟩,by conv=>whnf⟩));conv=>whnf)|(refine And.intro ?_ ?_<;>conv=>whnf)|fail)
    try rw [← hrae] at hk
    exact hr _ _ _ (stK ns root n (setG G j [] _) of ex np pf) _ (Wk1.le (AV.le_refl _) ⟨ABlk.le_refl _,ABlk.le_refl _,ABlk.le_refl _,ABlk.le_refl _,ABlk.le_refl _,gn_set rfl (fun i _=>gn_upd (Nat.zero_add _) (Nat.zero_add _) rfl rfl i),ABlk.le_refl _,lesK.refl _⟩) rfl rfl stK_cl hk
   simp only [k15,if_false] at hk
   refine frameZ (K0:=stK ns root n G of ex np pf) (gput_ok (fblE_ok ihm) (gput_ok eRaise_ok g0_ok)) 19 rfl stK_cl fun Q hr=>?_
   conv=>whnf
   refine⟨⟨by omega,by omega,rfl⟩,?_⟩
   conv=>whnf
   refine⟨fun av ha=>?_,fun hn=>(hN hn).elim⟩
   obtain rfl:=hY av ha
   conv=>whnf
   repeat ((refine And.intro ?_ ?_);(focus ((conv=>whnf);first|done|exact⟨⟨by omega,by omega,rfl⟩,by conv=>whnf⟩|exact⟨fun a ha=>by obtain rfl:=hY a ha;(conv=>whnf),fun hn=>(hN hn).elim⟩));conv=>whnf)
   refine⟨ns,root,p,_,rfl,rt.toStd,hp,hrf,?_⟩
   conv=>whnf
   refine two_eq (fun h=>absurd (show (nd ns p).k=11 from h) (k11)) (fun _=>?_)
   conv=>whnf
   refine two_eq (fun h=>absurd (show (nd ns p).k=12 from h) (k12)) (fun _=>?_)
   conv=>whnf
   refine two_eq (fun h=>absurd (show (nd ns p).k=16 from h) (k16)) (fun _=>?_)
   conv=>whnf
   refine two_eq (fun h=>absurd (show (nd ns p).k=14 from h) (k14)) (fun _=>?_)
   conv=>whnf
   refine two_eq (fun h=>absurd (show (nd ns p).k=15 from h) (k15)) (fun _=>?_)
   conv=>whnf
   repeat' (first|(refine Chk.mk ⟨rfl,rfl⟩ ?_;conv=>whnf)|(refine Chk.mk ⟨rfl,Nat.zero_add _,by omega,by omega,rfl⟩ ?_;conv=>whnf)|((refine And.intro ?_ ?_);(focus ((conv=>whnf);first|done|exact⟨⟨rfl,Nat.zero_add _,by omega,by omega,rfl⟩,by conv=>whnf⟩));conv=>whnf)|(refine And.intro ?_ ?_<;>conv=>whnf)|fail)
   try rw [← hrae] at hk
   exact hr _ _ _ (stK ns root n (setG G j [fo] _) of ex np pf) _ (Wk1.fz7 (r:=1) (kidF [fo]) rfl (row1 rfl) (.inr ⟨_,_,_,_,_,_,rfl,rfl,gn_fz rfl rfl fun i=>gn_upd (Nat.zero_add _) (Nat.zero_add _) rfl rfl i⟩)) rfl rfl stK_cl hk
def cMay (m:Nat):AC:=fun args K k=>∃ ns root p' p v,args=[treeV ns root,intV p']∧p'=((p:Nat):Int)∧RightT ns root∧p<ns.length∧p<m∧exB (nd ns p).k=true∧raisesN ns m p=v∧k (.ret (.p (.bool v))) K
theorem may_ok:∀ m,COk 73 (cMay m):=by
 intro m
 induction m with
 | zero=>rintro args K k ⟨ns,root,_,p,v,_,_,_,_,h,_⟩;omega
 | succ m ihm =>
 rintro args K k ⟨ns,root,_,p,v,rfl,rfl,rt,hp,hpm,hex,rfl,hk⟩
 have hlen:=rt.len
 have hmany:=rt.many p hp
 have he2:=exB_iff.1 hex
 have hkid:∀ q∈(nd ns p).kids,0≤q∧q<(ns.length:Int)∧q<p∧exB (nd ns q.toNat).k=true:=fun q hq=>by
  obtain⟨q0,q1,_⟩:=rt.kid p hp q hq
  have:=rt.kidk hp hq
  simp only at this
  refine⟨q0,by omega,q1,?_⟩
  rcases this with h|h|h|h|h|h|h<;>first|exact h.2.2|omega
 simp only [raisesN] at hk
 refine frame0P (gput_ok ihm g0_ok) 19 rfl fun Q hr=>?_
 by_cases k23:(nd ns p).k=23
 ·rw [show riseB (nd ns p)=true by simp [riseB,k23],Bool.true_or] at hk
  conv=>whnf
  refine⟨⟨by omega,by omega,rfl⟩,?_⟩
  conv=>whnf
  refine two_eq (fun _=>?_) (fun h=>absurd k23 h)
  conv=>whnf
  exact hr _ _ rfl hk
 by_cases k27:(nd ns p).k=27
 ·by_cases t1:(nd ns p).tx=[47]
  ·rw [show riseB (nd ns p)=true by simp [riseB,k27,t1],Bool.true_or] at hk
   conv=>whnf
   refine⟨⟨by omega,by omega,rfl⟩,?_⟩
   conv=>whnf
   refine two_eq (fun h=>absurd h k23) (fun _=>?_)
   conv=>whnf
   refine two_eq (fun _=>?_) (fun h=>absurd k27 h)
   conv=>whnf
   refine two_eq (fun _=>?_) (fun h=>absurd t1 h)
   conv=>whnf
   exact hr _ _ rfl hk
  by_cases t2:(nd ns p).tx=[37]
  ·rw [show riseB (nd ns p)=true by simp [riseB,k27,t2],Bool.true_or] at hk
   conv=>whnf
   refine⟨⟨by omega,by omega,rfl⟩,?_⟩
   conv=>whnf
   refine two_eq (fun h=>absurd h k23) (fun _=>?_)
   conv=>whnf
   refine two_eq (fun _=>?_) (fun h=>absurd k27 h)
   conv=>whnf
   refine two_eq (fun h=>absurd h t1) (fun _=>?_)
   conv=>whnf
   refine two_eq (fun _=>?_) (fun h=>absurd t2 h)
   conv=>whnf
   exact hr _ _ rfl hk
  have hk:k (.ret (.p (.bool ((nd ns p).kids.any (rsP ns m))))) K:=by
   rw [show riseB (nd ns p)=false by simp [riseB,k27,t1,t2],Bool.false_or] at hk;exact hk
  conv=>whnf
  refine⟨⟨by omega,by omega,rfl⟩,?_⟩
  conv=>whnf
  refine two_eq (fun h=>absurd h k23) (fun _=>?_)
  conv=>whnf
  refine two_eq (fun _=>?_) (fun h=>absurd k27 h)
  conv=>whnf
  refine two_eq (fun h=>absurd h t1) (fun _=>?_)
  conv=>whnf
  refine two_eq (fun h=>absurd h t2) (fun _=>?_)
  conv=>whnf
  refine loop_up (ι:=Nat) [2,5] (fun j=>[(6,intV j)]) (fun _=>[]) (fun j=>j≤(nd ns p).kids.length∧((nd ns p).kids.drop j).any (rsP ns m)=(nd ns p).kids.any (rsP ns m)) (fun j=>(nd ns p).kids.length - j) 0 ⟨AV.le_refl _,trivial⟩ trivial ⟨Nat.zero_le _,by simp⟩ ?_
  rintro Y hle i ⟨hi,he⟩ ih
  conv=>whnf
  refine two_dec (fun h=>?_) (fun h=>?_)
  ·have h':(i:Int)<((nd ns p).kids.length:Int):=h
   have h:i<(nd ns p).kids.length:=by omega
   have hw1:=wzz (i:=i) (by omega)
   have hq:=hkid _ (getD_mem h)
   have e1:(nd ns p).kids.getD i 0=(nd ns p).kids[i]:=by simp [h]
   rw [List.drop_eq_getElem_cons h,List.any_cons,← e1] at he
   conv=>whnf
   refine⟨⟨by omega,h',rfl⟩,?_⟩
   conv=>whnf
   cases hb:raisesN ns m ((nd ns p).kids.getD i 0).toNat with
   | true =>
    rw [rsP,hq.2.2.2,hb,Bool.and_true,Bool.true_or] at he
    rw [← he] at hk
    refine⟨ns,root,_,((nd ns p).kids.getD i 0).toNat,_,rfl,(Int.toNat_of_nonneg hq.1).symm,rt,by omega,by omega,hq.2.2.2,hb,?_⟩
    conv=>whnf
    repeat ((refine And.intro ?_ ?_);(focus ((conv=>whnf);first|done|exact⟨⟨by omega,h',rfl⟩,by conv=>whnf⟩|exact⟨⟨hq.1,hq.2.1,rfl⟩,by conv=>whnf⟩));conv=>whnf)
    exact hr _ _ rfl hk
   | false =>
    rw [rsP,hb,Bool.and_false,Bool.false_or] at he
    refine⟨ns,root,_,((nd ns p).kids.getD i 0).toNat,_,rfl,(Int.toNat_of_nonneg hq.1).symm,rt,by omega,by omega,hq.2.2.2,hb,?_⟩
    conv=>whnf
    repeat ((refine And.intro ?_ ?_);(focus ((conv=>whnf);first|done|exact⟨⟨by omega,h',rfl⟩,by conv=>whnf⟩|exact⟨⟨hq.1,hq.2.1,rfl⟩,by conv=>whnf⟩));conv=>whnf)
    refine hle _ _ (Le.env ?_ ?_) (ih (i+1) (by omega) ⟨by omega,he⟩)
    ·skip
     repeat' (first|exact trivial|((conv=>whnf);first|exact trivial|refine⟨AV.le_refl _,?_⟩|refine⟨ABlk.le_refl _,?_⟩|(refine⟨AV.le_of_eq ?_,?_⟩;focus ((first|exact congrArg intV hw1|fail);done))|(refine⟨ABlk.le_of_eq ?_,?_⟩;focus ((first|exact congrArg intV hw1|fail);done))|fail)|fail)
    ·skip
     repeat' (first|exact trivial|((conv=>whnf);first|exact trivial|refine⟨AV.le_refl _,?_⟩|refine⟨ABlk.le_refl _,?_⟩|fail)|fail)
  ·have h':¬ (i:Int)<((nd ns p).kids.length:Int):=h
   obtain rfl:i=(nd ns p).kids.length:=by omega
   rw [List.drop_length] at he
   have he:false=(nd ns p).kids.any (rsP ns m):=he
   rw [← he] at hk
   conv=>whnf
   exact hr _ _ rfl hk
 have hk:k (.ret (.p (.bool ((nd ns p).kids.any (rsP ns m))))) K:=by
  rw [show riseB (nd ns p)=false by simp [riseB,k27,k23];omega,Bool.false_or] at hk;exact hk
 conv=>whnf
 refine⟨⟨by omega,by omega,rfl⟩,?_⟩
 conv=>whnf
 refine two_eq (fun h=>absurd h k23) (fun _=>?_)
 conv=>whnf
 refine two_eq (fun h=>absurd h k27) (fun _=>?_)
 conv=>whnf
 refine loop_up (ι:=Nat) [2,5] (fun j=>[(6,intV j)]) (fun _=>[]) (fun j=>j≤(nd ns p).kids.length∧((nd ns p).kids.drop j).any (rsP ns m)=(nd ns p).kids.any (rsP ns m)) (fun j=>(nd ns p).kids.length - j) 0 ⟨AV.le_refl _,trivial⟩ trivial ⟨Nat.zero_le _,by simp⟩ ?_
 rintro Y hle i ⟨hi,he⟩ ih
 conv=>whnf
 refine two_dec (fun h=>?_) (fun h=>?_)
 ·have h':(i:Int)<((nd ns p).kids.length:Int):=h
  have h:i<(nd ns p).kids.length:=by omega
  have hw1:=wzz (i:=i) (by omega)
  have hq:=hkid _ (getD_mem h)
  have e1:(nd ns p).kids.getD i 0=(nd ns p).kids[i]:=by simp [h]
  rw [List.drop_eq_getElem_cons h,List.any_cons,← e1] at he
  conv=>whnf
  refine⟨⟨by omega,h',rfl⟩,?_⟩
  conv=>whnf
  cases hb:raisesN ns m ((nd ns p).kids.getD i 0).toNat with
  | true =>
   rw [rsP,hq.2.2.2,hb,Bool.and_true,Bool.true_or] at he
   rw [← he] at hk
   refine⟨ns,root,_,((nd ns p).kids.getD i 0).toNat,_,rfl,(Int.toNat_of_nonneg hq.1).symm,rt,by omega,by omega,hq.2.2.2,hb,?_⟩
   conv=>whnf
   repeat ((refine And.intro ?_ ?_);(focus ((conv=>whnf);first|done|exact⟨⟨by omega,h',rfl⟩,by conv=>whnf⟩|exact⟨⟨hq.1,hq.2.1,rfl⟩,by conv=>whnf⟩));conv=>whnf)
   exact hr _ _ rfl hk
  | false =>
   rw [rsP,hb,Bool.and_false,Bool.false_or] at he
   refine⟨ns,root,_,((nd ns p).kids.getD i 0).toNat,_,rfl,(Int.toNat_of_nonneg hq.1).symm,rt,by omega,by omega,hq.2.2.2,hb,?_⟩
   conv=>whnf
   repeat ((refine And.intro ?_ ?_);(focus ((conv=>whnf);first|done|exact⟨⟨by omega,h',rfl⟩,by conv=>whnf⟩|exact⟨⟨hq.1,hq.2.1,rfl⟩,by conv=>whnf⟩));conv=>whnf)
   refine hle _ _ (Le.env ?_ ?_) (ih (i+1) (by omega) ⟨by omega,he⟩)
   ·skip
    repeat' (first|exact trivial|((conv=>whnf);first|exact trivial|refine⟨AV.le_refl _,?_⟩|refine⟨ABlk.le_refl _,?_⟩|(refine⟨AV.le_of_eq ?_,?_⟩;focus ((first|exact congrArg intV hw1|fail);done))|(refine⟨ABlk.le_of_eq ?_,?_⟩;focus ((first|exact congrArg intV hw1|fail);done))|fail)|fail)
   ·skip
    repeat' (first|exact trivial|((conv=>whnf);first|exact trivial|refine⟨AV.le_refl _,?_⟩|refine⟨ABlk.le_refl _,?_⟩|fail)|fail)
 ·have h':¬ (i:Int)<((nd ns p).kids.length:Int):=h
  obtain rfl:i=(nd ns p).kids.length:=by omega
  rw [List.drop_length] at he
  have he:false=(nd ns p).kids.any (rsP ns m):=he
  rw [← he] at hk
  conv=>whnf
  exact hr _ _ rfl hk
def eMay:AC:=fun args K k=>∃ ns root p' p m v,args=[treeV ns root,intV p']∧p'=((p:Nat):Int)∧RightT ns root∧p<ns.length∧p<m∧exB (nd ns p).k=true∧raisesN ns m p=v∧k (.ret (.p (.bool v))) K
theorem eMay_ok:COk 73 eMay:=by
 rintro args K k ⟨ns,root,p',p,m,v,h⟩
 exact may_ok m args K k ⟨ns,root,p',p,v,h⟩
def cRais:AC:=fun args K k=>∃ ns root p' p v,args=[treeV ns root,intV p']∧p'=((p:Nat):Int)∧RightT ns root∧p<ns.length∧stB (nd ns p).k=true∧raisesF ns p=v∧k (.ret (.p (.bool v))) K
theorem rais_ok:COk 74 cRais:=by
 rintro args K k ⟨ns,root,_,p,v,rfl,rfl,rt,hp,hst,rfl,hk⟩
 have hlen:=rt.len
 have hmany:=rt.many p hp
 have he2:=stB_iff.1 hst
 have hkid:∀ q∈(nd ns p).kids,0≤q∧q<(ns.length:Int)∧q<p:=fun q hq=>by
  obtain⟨q0,q1,_⟩:=rt.kid p hp q hq
  exact⟨q0,by omega,q1⟩
 simp only [raisesF,raisesN] at hk
 refine frame0P (gput_ok eMay_ok g0_ok) 19 rfl fun Q hr=>?_
 by_cases k8:(nd ns p).k=8
 ·skip
  rw [show riseB (nd ns p)=true by simp [riseB,k8],Bool.true_or] at hk
  conv=>whnf
  refine⟨⟨by omega,by omega,rfl⟩,?_⟩
  conv=>whnf
  refine two_eq (fun _=>?_) (fun h=>absurd k8 h)
  conv=>whnf
  exact hr _ _ rfl hk
 by_cases k17:(nd ns p).k=17
 ·skip
  rw [show riseB (nd ns p)=true by simp [riseB,k17],Bool.true_or] at hk
  conv=>whnf
  refine⟨⟨by omega,by omega,rfl⟩,?_⟩
  conv=>whnf
  refine two_eq (fun h=>absurd h k8) (fun _=>?_)
  conv=>whnf
  refine two_eq (fun _=>?_) (fun h=>absurd k17 h)
  conv=>whnf
  exact hr _ _ rfl hk
 by_cases k13:(nd ns p).k=13
 ·skip
  rw [show riseB (nd ns p)=true by simp [riseB,k13],Bool.true_or] at hk
  conv=>whnf
  refine⟨⟨by omega,by omega,rfl⟩,?_⟩
  conv=>whnf
  refine two_eq (fun h=>absurd h k8) (fun _=>?_)
  conv=>whnf
  refine two_eq (fun h=>absurd h k17) (fun _=>?_)
  conv=>whnf
  refine two_eq (fun _=>?_) (fun h=>absurd k13 h)
  conv=>whnf
  exact hr _ _ rfl hk
 by_cases k15:(nd ns p).k=15
 ·skip
  rw [show riseB (nd ns p)=true by simp [riseB,k15],Bool.true_or] at hk
  conv=>whnf
  refine⟨⟨by omega,by omega,rfl⟩,?_⟩
  conv=>whnf
  refine two_eq (fun h=>absurd h k8) (fun _=>?_)
  conv=>whnf
  refine two_eq (fun h=>absurd h k17) (fun _=>?_)
  conv=>whnf
  refine two_eq (fun h=>absurd h k13) (fun _=>?_)
  conv=>whnf
  refine two_eq (fun _=>?_) (fun h=>absurd k15 h)
  conv=>whnf
  exact hr _ _ rfl hk
 have hk:k (.ret (.p (.bool ((nd ns p).kids.any (rsP ns p))))) K:=by
  rw [show riseB (nd ns p)=false by simp [riseB,k8,k17,k13,k15];omega,Bool.false_or] at hk;exact hk
 conv=>whnf
 refine⟨⟨by omega,by omega,rfl⟩,?_⟩
 conv=>whnf
 refine two_eq (fun h=>absurd h k8) (fun _=>?_)
 conv=>whnf
 refine two_eq (fun h=>absurd h k17) (fun _=>?_)
 conv=>whnf
 refine two_eq (fun h=>absurd h k13) (fun _=>?_)
 conv=>whnf
 refine two_eq (fun h=>absurd h k15) (fun _=>?_)
 conv=>whnf
 refine loop_up (ι:=Nat) [2,5] (fun j=>[(6,intV j)]) (fun _=>[]) (fun j=>j≤(nd ns p).kids.length∧((nd ns p).kids.drop j).any (rsP ns p)=(nd ns p).kids.any (rsP ns p)) (fun j=>(nd ns p).kids.length - j) 0 ⟨AV.le_refl _,trivial⟩ trivial ⟨Nat.zero_le _,by simp⟩ ?_
 rintro Y hle i ⟨hi,he⟩ ih
 conv=>whnf
 refine two_dec (fun h=>?_) (fun h=>?_)
 ·have h':(i:Int)<((nd ns p).kids.length:Int):=h
  have h:i<(nd ns p).kids.length:=by omega
  have hw1:=wzz (i:=i) (by omega)
  have hq:=hkid _ (getD_mem h)
  have e1:(nd ns p).kids.getD i 0=(nd ns p).kids[i]:=by simp [h]
  rw [List.drop_eq_getElem_cons h,List.any_cons,← e1] at he
  conv=>whnf
  refine⟨⟨by omega,h',rfl⟩,?_⟩
  conv=>whnf
  refine⟨⟨hq.1,hq.2.1,rfl⟩,?_⟩
  conv=>whnf
  refine two_dec (fun h20=>?_) (fun h20=>?_)
  ·have h20:(nd ns ((nd ns p).kids.getD i 0).toNat).k≥20:=h20
   conv=>whnf
   refine two_dec (fun h27=>?_) (fun h27=>?_)
   ·have h27:(nd ns ((nd ns p).kids.getD i 0).toNat).k≤27:=h27
    have hex:=exB_iff.2 ⟨h20,h27⟩
    conv=>whnf
    repeat ((refine And.intro ?_ ?_);(focus ((conv=>whnf);first|done|exact⟨⟨by omega,h',rfl⟩,by conv=>whnf⟩|exact⟨⟨hq.1,hq.2.1,rfl⟩,by conv=>whnf⟩));conv=>whnf)
    refine⟨⟨by omega,h',rfl⟩,?_⟩
    conv=>whnf
    cases hb:raisesN ns p ((nd ns p).kids.getD i 0).toNat with
    | true =>
     rw [rsP,hex,hb,Bool.and_true,Bool.true_or] at he
     rw [← he] at hk
     refine⟨ns,root,_,((nd ns p).kids.getD i 0).toNat,p,_,rfl,(Int.toNat_of_nonneg hq.1).symm,rt,by omega,by omega,hex,hb,?_⟩
     conv=>whnf
     repeat ((refine And.intro ?_ ?_);(focus ((conv=>whnf);first|done|exact⟨⟨by omega,h',rfl⟩,by conv=>whnf⟩|exact⟨⟨hq.1,hq.2.1,rfl⟩,by conv=>whnf⟩));conv=>whnf)
     exact hr _ _ rfl hk
    | false =>
     rw [rsP,hb,Bool.and_false,Bool.false_or] at he
     refine⟨ns,root,_,((nd ns p).kids.getD i 0).toNat,p,_,rfl,(Int.toNat_of_nonneg hq.1).symm,rt,by omega,by omega,hex,hb,?_⟩
     conv=>whnf
     repeat ((refine And.intro ?_ ?_);(focus ((conv=>whnf);first|done|exact⟨⟨by omega,h',rfl⟩,by conv=>whnf⟩|exact⟨⟨hq.1,hq.2.1,rfl⟩,by conv=>whnf⟩));conv=>whnf)
     refine hle _ _ (Le.cutEnv 2 rfl rfl ⟨rfl,rfl,trivial⟩ ?_ ?_) (ih (i+1) (by omega) ⟨by omega,he⟩)
     ·skip
      repeat' (first|exact trivial|((conv=>whnf);first|exact trivial|refine⟨AV.le_refl _,?_⟩|refine⟨ABlk.le_refl _,?_⟩|(refine⟨AV.le_of_eq ?_,?_⟩;focus ((first|exact congrArg intV hw1|fail);done))|(refine⟨ABlk.le_of_eq ?_,?_⟩;focus ((first|exact congrArg intV hw1|fail);done))|fail)|fail)
     ·skip
      repeat' (first|exact trivial|((conv=>whnf);first|exact trivial|refine⟨AV.le_refl _,?_⟩|refine⟨ABlk.le_refl _,?_⟩|fail)|fail)
   ·have h27:¬ (nd ns ((nd ns p).kids.getD i 0).toNat).k≤27:=h27
    have hex:exB (nd ns ((nd ns p).kids.getD i 0).toNat).k=false:=by
     cases e:exB (nd ns ((nd ns p).kids.getD i 0).toNat).k with
     | false=>rfl
     | true=>exact absurd (exB_iff.1 e).2 h27
    rw [rsP,hex,Bool.false_and,Bool.false_or] at he
    conv=>whnf
    repeat ((refine And.intro ?_ ?_);(focus ((conv=>whnf);first|done|exact⟨⟨by omega,h',rfl⟩,by conv=>whnf⟩|exact⟨⟨hq.1,hq.2.1,rfl⟩,by conv=>whnf⟩));conv=>whnf)
    refine hle _ _ (Le.cutEnv 2 rfl rfl ⟨rfl,rfl,trivial⟩ ?_ ?_) (ih (i+1) (by omega) ⟨by omega,he⟩)
    ·skip
     repeat' (first|exact trivial|((conv=>whnf);first|exact trivial|refine⟨AV.le_refl _,?_⟩|refine⟨ABlk.le_refl _,?_⟩|(refine⟨AV.le_of_eq ?_,?_⟩;focus ((first|exact congrArg intV hw1|fail);done))|(refine⟨ABlk.le_of_eq ?_,?_⟩;focus ((first|exact congrArg intV hw1|fail);done))|fail)|fail)
    ·skip
     repeat' (first|exact trivial|((conv=>whnf);first|exact trivial|refine⟨AV.le_refl _,?_⟩|refine⟨ABlk.le_refl _,?_⟩|fail)|fail)
  ·have h20:¬ (nd ns ((nd ns p).kids.getD i 0).toNat).k≥20:=h20
   have hex:exB (nd ns ((nd ns p).kids.getD i 0).toNat).k=false:=by
    cases e:exB (nd ns ((nd ns p).kids.getD i 0).toNat).k with
    | false=>rfl
    | true=>exact absurd (exB_iff.1 e).1 h20
   rw [rsP,hex,Bool.false_and,Bool.false_or] at he
   conv=>whnf
   repeat ((refine And.intro ?_ ?_);(focus ((conv=>whnf);first|done|exact⟨⟨by omega,h',rfl⟩,by conv=>whnf⟩|exact⟨⟨hq.1,hq.2.1,rfl⟩,by conv=>whnf⟩));conv=>whnf)
   refine hle _ _ (Le.cutEnv 2 rfl rfl ⟨rfl,rfl,trivial⟩ ?_ ?_) (ih (i+1) (by omega) ⟨by omega,he⟩)
   ·skip
    repeat' (first|exact trivial|((conv=>whnf);first|exact trivial|refine⟨AV.le_refl _,?_⟩|refine⟨ABlk.le_refl _,?_⟩|(refine⟨AV.le_of_eq ?_,?_⟩;focus ((first|exact congrArg intV hw1|fail);done))|(refine⟨ABlk.le_of_eq ?_,?_⟩;focus ((first|exact congrArg intV hw1|fail);done))|fail)|fail)
   ·skip
    repeat' (first|exact trivial|((conv=>whnf);first|exact trivial|refine⟨AV.le_refl _,?_⟩|refine⟨ABlk.le_refl _,?_⟩|fail)|fail)
 ·have h':¬ (i:Int)<((nd ns p).kids.length:Int):=h
  obtain rfl:i=(nd ns p).kids.length:=by omega
  rw [List.drop_length] at he
  have he:false=(nd ns p).kids.any (rsP ns p):=he
  rw [← he] at hk
  conv=>whnf
  exact hr _ _ rfl hk
def gnR (n:Nat) (G:Nat→GN):ABlk:=.arr 54 5 0 n (fun i=>pvs (gnF G i))
def rGK (ns:List Nd) (root:Int) (n:Nat) (G:Nat→GN) (np:Nat) (pf:Nat→Int):List ABlk :=
 [tbx ns root,.box 50 [.slr 3 0 0 n,.slr 2 0 0 np],rowA np pf,gnR n G]
theorem rGK_cl {ns:List Nd} {root:Int} {n:Nat} {G:Nat→GN} {np:Nat} {pf:Nat→Int}:clK 4 (rGK ns root n G np pf) :=
 ⟨rfl,rfl,fun _ _=>rfl,fun _ _=>rfl,trivial⟩
def rGp:AV:=.ptr 1 0 1 0 0
def cROf:AC:=fun args K k=>∃ ns root n G np pf p v X,args=[rGp,intV p]∧K=rGK ns root n G np pf++X∧n<1000000∧endS n (placeP G p)=v∧k (.ret (intV v)) (rGK ns root n G np pf++X)
theorem rof8_ok:COk 38 cROf:=by
 rintro args K k ⟨ns,root,n,G,np,pf,p,v,X,rfl,rfl,hn,rfl,hk⟩
 refine frameZ (K0:=rGK ns root n G np pf) g0_ok 19 rfl rGK_cl fun Q hr=>?_
 conv=>whnf
 refine loop_up (ι:=Nat) [0,1] (fun j=>[(5,intV j)]) (fun _=>[]) (fun j=>j≤n∧∀ i,i<j→placeP G p i=false) (fun j=>n - j) 0 ⟨AV.le_refl _,trivial⟩ trivial ⟨Nat.zero_le _,fun i hi=>absurd hi (Nat.not_lt_zero _)⟩ ?_
 rintro Y hle i ⟨hi,he⟩ ih
 conv=>whnf
 refine two_dec (fun h=>?_) (fun h=>?_)
 ·have h':(i:Int)<(n:Int):=h
  have h:i<n:=by omega
  have hw1:=wzz (i:=i) (by omega)
  conv=>whnf
  refine Chk.mk ⟨rfl,Nat.zero_add _,by omega,h',rfl⟩ ?_
  conv=>whnf
  refine Chk.mk ⟨rfl,rfl⟩ ?_
  conv=>whnf
  refine two_eq (fun h2=>?_) (fun h2=>?_)
  ·have h2:(G i).k=4:=by have h2:(G (0+i)).k=4:=h2;rwa [Nat.zero_add] at h2
   conv=>whnf
   refine Chk.mk ⟨rfl,Nat.zero_add _,by omega,h',rfl⟩ ?_
   conv=>whnf
   refine Chk.mk ⟨rfl,rfl⟩ ?_
   conv=>whnf
   refine two_eq (fun h3=>?_) (fun h3=>?_)
   ·have h3:(G i).pl=p:=by have h3:(G (0+i)).pl=p:=h3;rwa [Nat.zero_add] at h3
    have hp:(placeP G p) i=true:=by simp only [kindP,placeP,h2,h3,beq_self_eq_true,Bool.true_and]
    rw [endS_at h hp he] at hk
    conv=>whnf
    exact hr _ _ _ (rGK ns root n G np pf) _ (Wk1.refl _ _ _) rfl rfl rGK_cl hk
   ·have h3:(G i).pl≠p:=by have h3:(G (0+i)).pl≠p:=h3;rwa [Nat.zero_add] at h3
    have hp:(placeP G p) i=false:=by simp only [kindP,placeP,beq_eq_false_iff_ne.2 h3,Bool.and_false]
    conv=>whnf
    refine hle _ _ (Le.env ?_ ?_) (ih (i+1) (by omega) ⟨by omega,fun j hj=>(Nat.lt_succ_iff_lt_or_eq.1 hj).elim (he j) fun e=>e▸hp⟩)
    ·skip
     repeat' (first|exact trivial|((conv=>whnf);first|exact trivial|refine⟨AV.le_refl _,?_⟩|refine⟨ABlk.le_refl _,?_⟩|(refine⟨AV.le_of_eq ?_,?_⟩;focus ((first|exact congrArg intV hw1|fail);done))|(refine⟨ABlk.le_of_eq ?_,?_⟩;focus ((first|exact congrArg intV hw1|fail);done))|fail)|fail)
    ·skip
     repeat' (first|exact trivial|((conv=>whnf);first|exact trivial|refine⟨AV.le_refl _,?_⟩|refine⟨ABlk.le_refl _,?_⟩|fail)|fail)
  ·have h2:(G i).k≠4:=by have h2:(G (0+i)).k≠4:=h2;rwa [Nat.zero_add] at h2
   have hp:(placeP G p) i=false:=by simp only [kindP,placeP,beq_eq_false_iff_ne.2 h2,Bool.false_and]
   conv=>whnf
   refine hle _ _ (Le.env ?_ ?_) (ih (i+1) (by omega) ⟨by omega,fun j hj=>(Nat.lt_succ_iff_lt_or_eq.1 hj).elim (he j) fun e=>e▸hp⟩)
   ·skip
    repeat' (first|exact trivial|((conv=>whnf);first|exact trivial|refine⟨AV.le_refl _,?_⟩|refine⟨ABlk.le_refl _,?_⟩|(refine⟨AV.le_of_eq ?_,?_⟩;focus ((first|exact congrArg intV hw1|fail);done))|(refine⟨ABlk.le_of_eq ?_,?_⟩;focus ((first|exact congrArg intV hw1|fail);done))|fail)|fail)
   ·skip
    repeat' (first|exact trivial|((conv=>whnf);first|exact trivial|refine⟨AV.le_refl _,?_⟩|refine⟨ABlk.le_refl _,?_⟩|fail)|fail)
 ·have h':¬ (i:Int)<(n:Int):=h
  obtain rfl:i=n:=by omega
  rw [endS_no he] at hk
  conv=>whnf
  exact hr _ _ _ (rGK ns root i G np pf) _ (Wk1.refl _ _ _) rfl rfl rGK_cl hk
def cREnd:AC:=fun args K k=>∃ ns root n G np pf kd p v X,args=[rGp,intV kd,intV p]∧K=rGK ns root n G np pf++X∧n<1000000∧endS n (kindP G kd p)=v∧k (.ret (intV v)) (rGK ns root n G np pf++X)
theorem rend8_ok:COk 34 cREnd:=by
 rintro args K k ⟨ns,root,n,G,np,pf,kd,p,v,X,rfl,rfl,hn,rfl,hk⟩
 refine frameZ (K0:=rGK ns root n G np pf) g0_ok 19 rfl rGK_cl fun Q hr=>?_
 conv=>whnf
 refine loop_up (ι:=Nat) [0,1,2] (fun j=>[(7,intV j)]) (fun _=>[]) (fun j=>j≤n∧∀ i,i<j→kindP G kd p i=false) (fun j=>n - j) 0 ⟨AV.le_refl _,trivial⟩ trivial ⟨Nat.zero_le _,fun i hi=>absurd hi (Nat.not_lt_zero _)⟩ ?_
 rintro Y hle i ⟨hi,he⟩ ih
 conv=>whnf
 refine two_dec (fun h=>?_) (fun h=>?_)
 ·have h':(i:Int)<(n:Int):=h
  have h:i<n:=by omega
  have hw1:=wzz (i:=i) (by omega)
  conv=>whnf
  refine Chk.mk ⟨rfl,Nat.zero_add _,by omega,h',rfl⟩ ?_
  conv=>whnf
  refine Chk.mk ⟨rfl,rfl⟩ ?_
  conv=>whnf
  refine two_eq (fun h2=>?_) (fun h2=>?_)
  ·have h2:(G i).k=kd:=by have h2:(G (0+i)).k=kd:=h2;rwa [Nat.zero_add] at h2
   conv=>whnf
   refine Chk.mk ⟨rfl,Nat.zero_add _,by omega,h',rfl⟩ ?_
   conv=>whnf
   refine Chk.mk ⟨rfl,rfl⟩ ?_
   conv=>whnf
   refine two_eq (fun h3=>?_) (fun h3=>?_)
   ·have h3:(G i).pr=p:=by have h3:(G (0+i)).pr=p:=h3;rwa [Nat.zero_add] at h3
    have hp:(kindP G kd p) i=true:=by simp only [kindP,placeP,h2,h3,beq_self_eq_true,Bool.true_and]
    rw [endS_at h hp he] at hk
    conv=>whnf
    exact hr _ _ _ (rGK ns root n G np pf) _ (Wk1.refl _ _ _) rfl rfl rGK_cl hk
   ·have h3:(G i).pr≠p:=by have h3:(G (0+i)).pr≠p:=h3;rwa [Nat.zero_add] at h3
    have hp:(kindP G kd p) i=false:=by simp only [kindP,placeP,beq_eq_false_iff_ne.2 h3,Bool.and_false]
    conv=>whnf
    refine hle _ _ (Le.env ?_ ?_) (ih (i+1) (by omega) ⟨by omega,fun j hj=>(Nat.lt_succ_iff_lt_or_eq.1 hj).elim (he j) fun e=>e▸hp⟩)
    ·skip
     repeat' (first|exact trivial|((conv=>whnf);first|exact trivial|refine⟨AV.le_refl _,?_⟩|refine⟨ABlk.le_refl _,?_⟩|(refine⟨AV.le_of_eq ?_,?_⟩;focus ((first|exact congrArg intV hw1|fail);done))|(refine⟨ABlk.le_of_eq ?_,?_⟩;focus ((first|exact congrArg intV hw1|fail);done))|fail)|fail)
    ·skip
     repeat' (first|exact trivial|((conv=>whnf);first|exact trivial|refine⟨AV.le_refl _,?_⟩|refine⟨ABlk.le_refl _,?_⟩|fail)|fail)
  ·have h2:(G i).k≠kd:=by have h2:(G (0+i)).k≠kd:=h2;rwa [Nat.zero_add] at h2
   have hp:(kindP G kd p) i=false:=by simp only [kindP,placeP,beq_eq_false_iff_ne.2 h2,Bool.false_and]
   conv=>whnf
   refine hle _ _ (Le.env ?_ ?_) (ih (i+1) (by omega) ⟨by omega,fun j hj=>(Nat.lt_succ_iff_lt_or_eq.1 hj).elim (he j) fun e=>e▸hp⟩)
   ·skip
    repeat' (first|exact trivial|((conv=>whnf);first|exact trivial|refine⟨AV.le_refl _,?_⟩|refine⟨ABlk.le_refl _,?_⟩|(refine⟨AV.le_of_eq ?_,?_⟩;focus ((first|exact congrArg intV hw1|fail);done))|(refine⟨ABlk.le_of_eq ?_,?_⟩;focus ((first|exact congrArg intV hw1|fail);done))|fail)|fail)
   ·skip
    repeat' (first|exact trivial|((conv=>whnf);first|exact trivial|refine⟨AV.le_refl _,?_⟩|refine⟨ABlk.le_refl _,?_⟩|fail)|fail)
 ·have h':¬ (i:Int)<(n:Int):=h
  obtain rfl:i=n:=by omega
  rw [endS_no he] at hk
  conv=>whnf
  exact hr _ _ _ (rGK ns root i G np pf) _ (Wk1.refl _ _ _) rfl rfl rGK_cl hk
def OfsG (ns:List Nd) (n:Nat) (G:Nat→GN) (at':Nat→Nat):Prop:=∀ j,j<ns.length→stB (nd ns j).k=true→endS n (placeP G (j:Int))=((at' j:Nat):Int)
def cRBeg (m:Nat):AC:=fun args K k=>∃ ns root n G np pf at' p' p fo v X,args=[rGp,treeV ns root,intV p',intV fo]∧K=rGK ns root n G np pf++X∧p'=((p:Nat):Int)∧RightT ns root∧p<ns.length∧p<m∧stB (nd ns p).k=true∧n<1000000 ∧
 OfsG ns n G at'∧begB ns at' m p fo=v∧k (.ret (intV v)) (rGK ns root n G np pf++X)
def cREnt (m:Nat):AC:=fun args K k=>∃ ns root n G np pf at' b' b fo v X,args=[rGp,treeV ns root,intV b',intV fo]∧K=rGK ns root n G np pf++X∧b'=((b:Nat):Int)∧RightT ns root∧b<ns.length∧b≤m∧(nd ns b).k=6∧n<1000000 ∧
 OfsG ns n G at'∧rowG ns at' m (nd ns b).kids fo=v∧k (.ret (intV v)) (rGK ns root n G np pf++X)
def cRBehD (m d:Nat):AC:=fun args K k=>∃ ns root n G np pf at' b' b i' i fo v X,args=[rGp,treeV ns root,intV b',intV i',intV fo]∧K=rGK ns root n G np pf++X∧b'=((b:Nat):Int)∧i'=((i:Nat):Int)∧RightT ns root∧b<ns.length∧b≤m∧(nd ns b).k=6∧i<1000000∧(nd ns b).kids.length - i≤d∧n<1000000 ∧
 OfsG ns n G at'∧rowG ns at' m ((nd ns b).kids.drop (i+1)) fo=v∧k (.ret (intV v)) (rGK ns root n G np pf++X)
theorem kidSt {ns:List Nd} {root:Int} (rt:RightT ns root) {b:Nat} (hb:b<ns.length) (hk:(nd ns b).k=6):∀ q∈(nd ns b).kids,0≤q∧q<(b:Int)∧stB (nd ns q.toNat).k=true:=fun q hq=>by
 obtain⟨q0,q1,_⟩:=rt.kid b hb q hq
 have:=rt.kidk hb hq
 simp only at this
 refine⟨q0,q1,?_⟩
 rcases this with h|h|h|h|h|h|h<;>first|exact h.2|omega
theorem beh_okD {m:Nat} (h0:COk 121 (cRBeg m)):∀ d,COk 120 (cRBehD m d):=by
 intro d
 induction d with
 | zero =>
  rintro args K k ⟨ns,root,n,G,np,pf,at',_,b,_,i,fo,v,X,rfl,rfl,rfl,rfl,rt,hb,hbm,hk6,hi,hd,hn,ho,rfl,hk⟩
  have hlen:=rt.len
  have hw1:=wzz (i:=i) (by omega)
  rw [List.drop_eq_nil_of_le (by omega)] at hk
  refine frameZ (K0:=rGK ns root n G np pf) g0_ok 19 rfl rGK_cl fun Q hr=>?_
  have hge:IntKind.i64.wrap ((i:Int)+1)≥((nd ns b).kids.length:Int):=by rw [hw1];omega
  conv=>whnf
  refine⟨⟨by omega,by omega,rfl⟩,?_⟩
  conv=>whnf
  refine two_dec (fun _=>?_) (fun h=>absurd hge h)
  conv=>whnf
  exact hr _ _ _ (rGK ns root n G np pf) _ (Wk1.refl _ _ _) rfl rfl rGK_cl hk
 | succ d ih =>
  rintro args K k ⟨ns,root,n,G,np,pf,at',_,b,_,i,fo,v,X,rfl,rfl,rfl,rfl,rt,hb,hbm,hk6,hi,hd,hn,ho,rfl,hk⟩
  have hlen:=rt.len
  have hmany:=rt.many b hb
  have hw1:=wzz (i:=i) (by omega)
  have hks:=kidSt rt hb hk6
  by_cases hlt:i+1<(nd ns b).kids.length
  ·have hge:¬ IntKind.i64.wrap ((i:Int)+1)≥((nd ns b).kids.length:Int):=by rw [hw1];omega
   have hi0:0≤IntKind.i64.wrap ((i:Int)+1):=by rw [hw1];omega
   have hil:IntKind.i64.wrap ((i:Int)+1)<((nd ns b).kids.length:Int):=by rw [hw1];omega
   obtain⟨q,hq⟩:∃ q,(nd ns b).kids.getD (i+1) 0=q:=⟨_,rfl⟩
   have hqk:=hks q (by rw [← hq];exact getD_mem hlt)
   have hqe:(nd ns b).kids.getD (IntKind.i64.wrap ((i:Int)+1)).toNat 0=((q.toNat:Nat):Int):=by rw [hw1,Int.toNat_natCast,hq];omega
   have hdr:(nd ns b).kids.drop (i+1)=q::(nd ns b).kids.drop (i+1+1):=by
    rw [List.drop_eq_getElem_cons hlt,← hq];congr 1;simp [hlt]
   obtain⟨v1,hv1⟩:∃ v1,rowG ns at' m ((nd ns b).kids.drop (i+1+1)) fo=v1:=⟨_,rfl⟩
   obtain⟨v2,hv2⟩:∃ v2,begB ns at' m q.toNat v1=v2:=⟨_,rfl⟩
   have hk:k (.ret (intV v2)) (rGK ns root n G np pf++X):=by
    rw [hdr] at hk
    have e:rowG ns at' m (q::(nd ns b).kids.drop (i+1+1)) fo=v2:=by rw [← hv2,← hv1];rfl
    rw [e] at hk;exact hk
   refine frameZ (K0:=rGK ns root n G np pf) (gput_ok h0 (gput_ok ih g0_ok)) 19 rfl rGK_cl fun Q hr=>?_
   conv=>whnf
   refine⟨⟨by omega,by omega,rfl⟩,?_⟩
   conv=>whnf
   refine two_dec (fun h=>absurd h hge) (fun _=>?_)
   conv=>whnf
   refine⟨⟨hi0,hil,rfl⟩,?_⟩
   conv=>whnf
   refine⟨ns,root,n,G,np,pf,at',_,b,_,i+1,fo,v1,_,rfl,rfl,rfl,hw1,rt,hb,hbm,hk6,by omega,by omega,hn,ho,hv1,?_⟩
   conv=>whnf
   repeat ((refine And.intro ?_ ?_);(focus ((conv=>whnf);first|done|exact⟨⟨hi0,hil,rfl⟩,by conv=>whnf⟩));conv=>whnf)
   refine⟨ns,root,n,G,np,pf,at',_,q.toNat,v1,v2,_,rfl,rfl,hqe,rt,by omega,by omega,hqk.2.2,hn,ho,hv2,?_⟩
   conv=>whnf
   repeat ((refine And.intro ?_ ?_);(focus ((conv=>whnf);first|done|exact⟨⟨hi0,hil,rfl⟩,by conv=>whnf⟩));conv=>whnf)
   exact hr _ _ _ (rGK ns root n G np pf) _ (Wk1.refl _ _ _) rfl rfl rGK_cl hk
  ·rw [List.drop_eq_nil_of_le (by omega)] at hk
   refine frameZ (K0:=rGK ns root n G np pf) g0_ok 19 rfl rGK_cl fun Q hr=>?_
   have hge:IntKind.i64.wrap ((i:Int)+1)≥((nd ns b).kids.length:Int):=by rw [hw1];omega
   conv=>whnf
   refine⟨⟨by omega,by omega,rfl⟩,?_⟩
   conv=>whnf
   refine two_dec (fun _=>?_) (fun h=>absurd hge h)
   conv=>whnf
   exact hr _ _ _ (rGK ns root n G np pf) _ (Wk1.refl _ _ _) rfl rfl rGK_cl hk
def cRBeh (m:Nat):AC:=fun args K k=>∃ ns root n G np pf at' b' b i' i fo v X,args=[rGp,treeV ns root,intV b',intV i',intV fo]∧K=rGK ns root n G np pf++X∧b'=((b:Nat):Int)∧i'=((i:Nat):Int)∧RightT ns root∧b<ns.length∧b≤m∧(nd ns b).k=6∧i<1000000∧n<1000000 ∧
 OfsG ns n G at'∧rowG ns at' m ((nd ns b).kids.drop (i+1)) fo=v∧k (.ret (intV v)) (rGK ns root n G np pf++X)
theorem rbeh8_ok {m:Nat} (h0:COk 121 (cRBeg m)):COk 120 (cRBeh m):=by
 rintro args K k ⟨ns,root,n,G,np,pf,at',b',b,i',i,fo,v,X,h1,h2,h3,h4,h5,h6,h7,h8,h9,h⟩
 exact beh_okD h0 _ args K k ⟨ns,root,n,G,np,pf,at',b',b,i',i,fo,v,X,h1,h2,h3,h4,h5,h6,h7,h8,h9,Nat.le_refl _,h⟩
theorem rent8_ok {m:Nat} (h0:COk 121 (cRBeg m)):COk 69 (cREnt m):=by
 rintro args K k ⟨ns,root,n,G,np,pf,at',_,b,fo,v,X,rfl,rfl,rfl,rt,hb,hbm,hk6,hn,ho,rfl,hk⟩
 have hlen:=rt.len
 have hmany:=rt.many b hb
 have hks:=kidSt rt hb hk6
 cases hc:(nd ns b).kids with
 | nil =>
  rw [hc] at hk
  have hz:((nd ns b).kids.length:Int)=0:=by rw [hc];rfl
  refine frameZ (K0:=rGK ns root n G np pf) g0_ok 19 rfl rGK_cl fun Q hr=>?_
  conv=>whnf
  refine⟨⟨by omega,by omega,rfl⟩,?_⟩
  conv=>whnf
  refine two_eq (fun _=>?_) (fun h=>absurd hz h)
  conv=>whnf
  exact hr _ _ _ (rGK ns root n G np pf) _ (Wk1.refl _ _ _) rfl rfl rGK_cl hk
 | cons q l =>
  have hz:((nd ns b).kids.length:Int)≠0:=by rw [hc];simp only [List.length_cons];omega
  have hil:(0:Int)<((nd ns b).kids.length:Int):=by rw [hc];simp only [List.length_cons];omega
  have hi0:(0:Int)≤0:=Int.le_refl _
  have hqk:=hks q (by rw [hc];simp)
  have hqe:(nd ns b).kids.getD (0:Int).toNat 0=((q.toNat:Nat):Int):=by rw [hc];show q=_;omega
  have hdr:(nd ns b).kids.drop (0+1)=l:=by rw [hc];rfl
  obtain⟨v1,hv1⟩:∃ v1,rowG ns at' m l fo=v1:=⟨_,rfl⟩
  obtain⟨v2,hv2⟩:∃ v2,begB ns at' m q.toNat v1=v2:=⟨_,rfl⟩
  have hk:k (.ret (intV v2)) (rGK ns root n G np pf++X):=by
   rw [hc] at hk
   have e:rowG ns at' m (q::l) fo=v2:=by rw [← hv2,← hv1];rfl
   rw [e] at hk;exact hk
  refine frameZ (K0:=rGK ns root n G np pf) (gput_ok h0 (gput_ok (rbeh8_ok h0) g0_ok)) 19 rfl rGK_cl fun Q hr=>?_
  conv=>whnf
  refine⟨⟨by omega,by omega,rfl⟩,?_⟩
  conv=>whnf
  refine two_eq (fun h=>absurd h hz) (fun _=>?_)
  conv=>whnf
  refine⟨⟨hi0,hil,rfl⟩,?_⟩
  conv=>whnf
  refine⟨ns,root,n,G,np,pf,at',_,b,_,0,fo,v1,_,rfl,rfl,rfl,rfl,rt,hb,hbm,hk6,by decide,hn,ho,by rw [hdr];exact hv1,?_⟩
  conv=>whnf
  repeat ((refine And.intro ?_ ?_);(focus ((conv=>whnf);first|done|exact⟨⟨hi0,hil,rfl⟩,by conv=>whnf⟩));conv=>whnf)
  refine⟨ns,root,n,G,np,pf,at',_,q.toNat,v1,v2,_,rfl,rfl,hqe,rt,by omega,by omega,hqk.2.2,hn,ho,hv2,?_⟩
  conv=>whnf
  repeat ((refine And.intro ?_ ?_);(focus ((conv=>whnf);first|done|exact⟨⟨hi0,hil,rfl⟩,by conv=>whnf⟩));conv=>whnf)
  exact hr _ _ _ (rGK ns root n G np pf) _ (Wk1.refl _ _ _) rfl rfl rGK_cl hk
theorem rbeg8_ok:∀ m,COk 121 (cRBeg m):=by
 intro m
 induction m with
 | zero=>rintro args K k ⟨ns,root,n,G,np,pf,at',_,p,fo,v,X,_,_,_,_,_,h,_⟩;omega
 | succ m ihm =>
 rintro args K k ⟨ns,root,n,G,np,pf,at',_,p,fo,v,X,rfl,rfl,rfl,rt,hp,hpm,hst,hn,ho,rfl,hk⟩
 have hlen:=rt.len
 have hmany:=rt.many p hp
 simp only [begB] at hk
 by_cases k16:(nd ns p).k=16
 ·rw [if_pos k16] at hk
  obtain⟨b,c,hks,hkb,hkc⟩:=rt.kids16 hp k16
  obtain⟨b0,b1,_⟩:=rt.kid p hp b (by rw [hks];simp)
  have hb0:(nd ns p).kids.getD 0 0=b:=by rw [hks];rfl
  obtain⟨v1,hv1⟩:∃ v1,rowG ns at' m (nd ns b.toNat).kids fo=v1:=⟨_,rfl⟩
  have hk:k (.ret (intV v1)) (rGK ns root n G np pf++X):=by rw [hb0] at hk;rw [← hv1];exact hk
  have hil:(0:Int)<((nd ns p).kids.length:Int):=by rw [hks];exact (by decide:(0:Int)<2)
  have hi0:(0:Int)≤0:=Int.le_refl _
  have hqe:(nd ns p).kids.getD (0:Int).toNat 0=((b.toNat:Nat):Int):=by rw [hks];show b=_;omega
  refine frameZ (K0:=rGK ns root n G np pf) (gput_ok (rent8_ok ihm) g0_ok) 19 rfl rGK_cl fun Q hr=>?_
  conv=>whnf
  refine⟨⟨by omega,by omega,rfl⟩,?_⟩
  conv=>whnf
  refine two_eq (fun _=>?_) (fun h=>absurd k16 h)
  conv=>whnf
  refine⟨⟨hi0,hil,rfl⟩,?_⟩
  conv=>whnf
  refine⟨ns,root,n,G,np,pf,at',_,b.toNat,fo,v1,_,rfl,rfl,hqe,rt,by omega,by omega,hkb,hn,ho,hv1,?_⟩
  conv=>whnf
  repeat ((refine And.intro ?_ ?_);(focus ((conv=>whnf);first|done|exact⟨⟨hi0,hil,rfl⟩,by conv=>whnf⟩));conv=>whnf)
  exact hr _ _ _ (rGK ns root n G np pf) _ (Wk1.refl _ _ _) rfl rfl rGK_cl hk
 ·rw [if_neg k16] at hk
  refine frameZ (K0:=rGK ns root n G np pf) (gput_ok rof8_ok g0_ok) 19 rfl rGK_cl fun Q hr=>?_
  conv=>whnf
  refine⟨⟨by omega,by omega,rfl⟩,?_⟩
  conv=>whnf
  refine two_eq (fun h=>absurd h k16) (fun _=>?_)
  conv=>whnf
  refine⟨ns,root,n,G,np,pf,_,_,_,rfl,rfl,hn,ho p hp hst,?_⟩
  conv=>whnf
  exact hr _ _ _ (rGK ns root n G np pf) _ (Wk1.refl _ _ _) rfl rfl rGK_cl hk
end Go.Proofs.YtojjkleplnijaaaGreatDoor
namespace Go.Ru
open Classical in
noncomputable def mixF (S:Nat→Prop) (F G:Nat→GN) (x:Nat):GN:=if S x then F x else G x
def stS (ns:List Nd) (at':Nat→Nat) (p x:Nat):Prop:=∃ j,Inn ns p j∧at' j=x
def rowT (ns:List Nd) (at':Nat→Nat) (l:List Int) (x:Nat):Prop:=∃ q∈l,stS ns at' q.toNat x
def SameK (n:Nat) (F G:Nat→GN):Prop:=∀ x,x<n→(G x).k=(F x).k∧(G x).pl=(F x).pl∧(G x).pr=(F x).pr
theorem mixF_yes {S:Nat→Prop} {F G:Nat→GN} {x:Nat} (h:S x):mixF S F G x=F x:=by unfold mixF;exact if_pos h
theorem mixF_no {S:Nat→Prop} {F G:Nat→GN} {x:Nat} (h:¬ S x):mixF S F G x=G x:=by unfold mixF;exact if_neg h
theorem mixF_mix {S T U:Nat→Prop} {F G:Nat→GN} (h:∀ x,U x↔T x∨S x):mixF S F (mixF T F G)=mixF U F G:=by
 funext x
 by_cases hS:S x
 ·rw [mixF_yes hS,mixF_yes ((h x).2 (.inr hS))]
 ·rw [mixF_no hS]
  by_cases hT:T x
  ·rw [mixF_yes hT,mixF_yes ((h x).2 (.inl hT))]
  ·rw [mixF_no hT,mixF_no fun hU=>((h x).1 hU).elim hT hS]
theorem mixF_congr {S T:Nat→Prop} {F G:Nat→GN} (h:∀ x,S x↔T x):mixF S F G=mixF T F G:=by
 have:S=T:=funext fun x=>propext (h x)
 rw [this]
theorem mixF_none {S:Nat→Prop} {F G:Nat→GN} (h:∀ x,¬ S x):mixF S F G=G:=funext fun x=>mixF_no (h x)
theorem SameK.mix {n:Nat} {F G:Nat→GN} (h:SameK n F G) (S:Nat→Prop):SameK n F (mixF S F G):=fun x hx=>by
 by_cases hS:S x
 ·rw [mixF_yes hS];exact⟨rfl,rfl,rfl⟩
 ·rw [mixF_no hS];exact h x hx
theorem firstB_congr {p p':Nat→Bool}:∀ {n:Nat},(∀ x,x<n→p x=p' x)→firstB p n=firstB p' n:=by
 intro n
 induction n with
 | zero=>intro _;rfl
 | succ n ih =>
  intro h
  simp only [firstB]
  rw [ih fun x hx=>h x (by omega),h n (by omega)]
theorem endS_congr {p p':Nat→Bool} {n:Nat} (h:∀ x,x<n→p x=p' x):endS n p=endS n p':=by
 unfold endS;rw [firstB_congr h]
theorem SameK.place {n:Nat} {F G:Nat→GN} (h:SameK n F G) (p:Int):endS n (placeP G p)=endS n (placeP F p):=endS_congr fun x hx=>by
 obtain⟨h1,h2,_⟩:=h x hx
 simp only [placeP,h1,h2]
theorem SameK.kind {n:Nat} {F G:Nat→GN} (h:SameK n F G) (kd p:Int):endS n (kindP G kd p)=endS n (kindP F kd p):=endS_congr fun x hx=>by
 obtain⟨h1,_,h3⟩:=h x hx
 simp only [kindP,h1,h3]
theorem set_mix {n a:Nat} {F G:Nat→GN} (ha:a<n) (h:SameK n F G) {nx:List Int} {ra:Int} (h1:(F a).nx=nx) (h2:(F a).ra=ra):setG G a nx ra=mixF (fun x=>x=a) F G:=by
 funext x
 by_cases e:x=a
 ·subst e
  rw [mixF_yes (S:=fun y=>y=x) rfl]
  obtain⟨k1,k2,k3⟩:=h x ha
  simp only [setG,if_pos]
  rw [k1,k2,k3,← h1,← h2]
 ·rw [mixF_no (S:=fun y=>y=a) e]
  simp only [setG,if_neg e]
theorem rowT_snoc (ns:List Nd) (at':Nat→Nat) (l:List Int) (q:Int) (x:Nat):rowT ns at' (l++[q]) x↔rowT ns at' l x∨stS ns at' q.toNat x:=by
 unfold rowT
 constructor
 ·rintro⟨q',hq,h⟩
  rcases List.mem_append.1 hq with hq|hq
  ·exact .inl ⟨q',hq,h⟩
  ·simp only [List.mem_cons,List.not_mem_nil,or_false] at hq
   subst hq;exact .inr h
 ·rintro (⟨q',hq,h⟩|h)
  ·exact⟨q',List.mem_append_left _ hq,h⟩
  ·exact⟨q,by simp,h⟩
section
variable {ns:List Nd} {root:Int} (rt:RightT ns root)
include rt
theorem rowT_block {at':Nat→Nat} {b:Nat} (hb:b<ns.length) (h6:(nd ns b).k=6) (x:Nat):stS ns at' b x↔rowT ns at' (nd ns b).kids x:=by
 constructor
 ·rintro⟨j,hj,e⟩
  rcases (rt.inn hb).1 hj with ⟨rfl,h⟩|⟨q,hq,h⟩
  ·have:=stB_iff.1 h;omega
  ·exact⟨q,hq,j,h,e⟩
 ·rintro⟨q,hq,j,hj,e⟩
  exact⟨j,(rt.inn hb).2 (.inr ⟨q,hq,hj⟩),e⟩
theorem stS_kids {at':Nat→Nat} {p:Nat} (hp:p<ns.length) (hs:stB (nd ns p).k=true) (x:Nat):stS ns at' p x↔rowT ns at' (nd ns p).kids x∨x=at' p:=by
 constructor
 ·rintro⟨j,hj,e⟩
  rcases (rt.inn hp).1 hj with ⟨rfl,h⟩|⟨q,hq,h⟩
  ·exact .inr e.symm
  ·exact .inl ⟨q,hq,j,h,e⟩
 ·rintro (⟨q,hq,j,hj,e⟩|e)
  ·exact⟨j,(rt.inn hp).2 (.inr ⟨q,hq,hj⟩),e⟩
  ·exact⟨p,(rt.inn hp).2 (.inl ⟨rfl,hs⟩),e.symm⟩
theorem no_ex {at':Nat→Nat} {q:Nat} (hq:q<ns.length) (hx:exB (nd ns q).k=true∨18≤(nd ns q).k) (x:Nat):¬ stS ns at' q x:=by
 rintro⟨j,hj,_⟩
 refine rt.noInn hq ?_ hj
 rcases hx with h|h
 ·have:=exB_iff.1 h;omega
 ·exact .inr (.inr (.inr h))
theorem stS_leaf {at':Nat→Nat} {p:Nat} (hp:p<ns.length) (hs:stB (nd ns p).k=true) (k11:(nd ns p).k≠11) (k12:(nd ns p).k≠12) (k16:(nd ns p).k≠16) (x:Nat):stS ns at' p x↔x=at' p:=by
 rw [stS_kids rt hp hs]
 refine or_iff_right ?_
 rintro⟨q,hq,h⟩
 have h7:=stB_iff.1 hs
 obtain⟨q0,q1,_⟩:=rt.kid p hp q hq
 have:=rt.kidk hp hq
 simp only at this
 refine no_ex rt (q:=q.toNat) (by omega) ?_ x h
 rcases this with h|h|h|h|h|h|h
 ·omega
 ·omega
 ·omega
 ·exact .inl h.2.2
 ·right;omega
 ·omega
 ·right;omega
end
end Go.Ru
namespace Go.AE
theorem Wk1.fz4 {N:Nat} {b0 b1 b2 b3 b3':ABlk} {Y:List ABlk} {r ty sz n:Nat} {f:Nat→List AV} {a:AV} (g:Nat→List PV) (hr:nth Y r=some (.arr ty sz 0 n f)) (hg:∀ i,i<n→f i=pvs (g i))
  (h3:fsxB (r+4) sz n g b3 b3'):Wk1 N a (b0::b1::b2::b3::Y) a (b0::b1::b2::b3'::setN Y r .dead) :=
 Wk1.fzx (r:=r+4) g hr hg ⟨.inl (.inl (ABlk.le_refl _)),.inl (.inl (ABlk.le_refl _)),.inl (.inl (ABlk.le_refl _)),h3,fsxK.refl _ _ _ _ _⟩ (AV.le_refl _)
end Go.AE
namespace Go.Proofs.YtojjkleplnijaaaGreatDoor
open Go.AE Go.Ru
set_option maxRecDepth 100000
set_option maxHeartbeats 1000000
structure LayC (ns:List Nd) (root:Int) (n:Nat) (F:Nat→GN) (at':Nat→Nat):Prop where
 rt:RightT ns root
 nl:n<1000000
 ofs:OfsG ns n F at'
 lt:∀ j,j<ns.length→stB (nd ns j).k=true→at' j<n
theorem LayC.of {ns:List Nd} {root:Int} {n:Nat} {F G:Nat→GN} {at':Nat→Nat} (h:LayC ns root n F at') (hs:SameK n F G):OfsG ns n G at':=fun j hj hst=>by
 rw [hs.place];exact h.ofs j hj hst
def ExOk (ns:List Nd) (n:Nat) (F:Nat→GN) (at':Nat→Nat) (ex:Int) (p:Nat):Prop:=∀ j,Inn ns p j→endS n (kindP F 2 (F (at' j)).pr)=ex
def unitV:AV:=.tup []
def cRStm (m:Nat):AC:=fun args K k=>∃ ns root n F G np pf at' ex p' p fo h X,args=[rGp,treeV ns root,intV p',intV fo,intV h]∧K=rGK ns root n G np pf++X∧p'=((p:Nat):Int)∧LayC ns root n F at'∧p<ns.length∧p<m∧stB (nd ns p).k=true∧SameK n F G ∧
 ExOk ns n F at' ex p∧LaidF ns at' F ex m p fo h∧k (.ret unitV) (rGK ns root n (mixF (stS ns at' p) F G) np pf++X)
def cRLay (m:Nat):AC:=fun args K k=>∃ ns root n F G np pf at' ex b' b fo h X,args=[rGp,treeV ns root,intV b',intV fo,intV h]∧K=rGK ns root n G np pf++X∧b'=((b:Nat):Int)∧LayC ns root n F at'∧b<ns.length∧b≤m∧(nd ns b).k=6∧SameK n F G ∧
 ExOk ns n F at' ex b∧LRow ns at' (LaidF ns at' F ex m) m (nd ns b).kids fo h∧k (.ret unitV) (rGK ns root n (mixF (stS ns at' b) F G) np pf++X)
theorem rlay8_ok {m:Nat} (h0:COk 119 (cRStm m)):COk 68 (cRLay m):=by
 rintro args K k ⟨ns,root,n,F,G,np,pf,at',ex,_,b,fo,h,X,rfl,rfl,rfl,lc,hb,hbm,hk6,sk,hex,hrow,hk⟩
 have rt:=lc.rt
 have hlen:=rt.len
 have hmany:=rt.many b hb
 have hks:=kidSt rt hb hk6
 refine frameZ (K0:=rGK ns root n G np pf) (gput_ok h0 (gput_ok (rbeh8_ok (rbeg8_ok m)) g0_ok)) 19 rfl rGK_cl fun Q hr=>?_
 have hm0:G=mixF (rowT ns at' ((nd ns b).kids.take 0)) F G:=(mixF_none fun x hx=>by obtain⟨q,hq,_⟩:=hx;simp at hq).symm
 conv=>whnf
 refine⟨⟨by omega,by omega,rfl⟩,?_⟩
 conv=>whnf
 refine loop_up (ι:=Nat) [0,2,3,4,6,10] (fun i=>[(11,intV i)]) (fun i=>[(3,gnR n (mixF (rowT ns at' ((nd ns b).kids.take i)) F G))]) (fun i=>i≤(nd ns b).kids.length) (fun i=>(nd ns b).kids.length - i) 0 ⟨AV.le_refl _,trivial⟩ ⟨upLe1 rfl (ABlk.le_of_eq (congrArg (gnR n) hm0)),trivial⟩ (Nat.zero_le _) ?_
 rintro Y hle i hi ih
 conv=>whnf
 refine two_dec (fun h1=>?_) (fun h1=>?_)
 ·have hil:(i:Int)<((nd ns b).kids.length:Int):=h1
  have h1:i<(nd ns b).kids.length:=by omega
  have hi0:(0:Int)≤(i:Int):=by omega
  have hw1:=wzz (i:=i) (by omega)
  obtain⟨q,hq⟩:∃ q,(nd ns b).kids.getD i 0=q:=⟨_,rfl⟩
  have hqm:q∈(nd ns b).kids:=by rw [← hq];exact getD_mem h1
  have hqk:=hks q hqm
  have hqe:(nd ns b).kids.getD ((i:Int)).toNat 0=((q.toNat:Nat):Int):=by rw [Int.toNat_natCast,hq];omega
  have hsp:(nd ns b).kids=(nd ns b).kids.take i++q::(nd ns b).kids.drop (i+1):=by
   rw [← hq]
   have:(nd ns b).kids.getD i 0=(nd ns b).kids[i]:=by simp [h1]
   rw [this,← List.drop_eq_getElem_cons h1,List.take_append_drop]
  have hld:=hrow _ q _ hsp
  have htk:(nd ns b).kids.take (i+1)=(nd ns b).kids.take i++[q]:=by
   rw [List.take_add_one,← hq];simp [h1]
  obtain⟨v1,hv1⟩:∃ v1,rowG ns at' m ((nd ns b).kids.drop (i+1)) fo=v1:=⟨_,rfl⟩
  rw [hv1] at hld
  have hmx:mixF (stS ns at' q.toNat) F (mixF (rowT ns at' ((nd ns b).kids.take i)) F G)=mixF (rowT ns at' ((nd ns b).kids.take (i+1))) F G:=mixF_mix fun x=>by rw [htk];exact rowT_snoc ns at' _ q x
  have sk1:=sk.mix (rowT ns at' ((nd ns b).kids.take i))
  have hex1:ExOk ns n F at' ex q.toNat:=fun j hj=>hex j ((rt.inn hb).2 (.inr ⟨q,hqm,hj⟩))
  conv=>whnf
  refine⟨⟨hi0,hil,rfl⟩,?_⟩
  conv=>whnf
  refine⟨ns,root,n,_,np,pf,at',_,b,_,i,fo,v1,_,rfl,rfl,rfl,rfl,rt,hb,hbm,hk6,by omega,lc.nl,lc.of sk1,hv1,?_⟩
  conv=>whnf
  repeat ((refine And.intro ?_ ?_);(focus ((conv=>whnf);first|done|exact⟨⟨hi0,hil,rfl⟩,by conv=>whnf⟩));conv=>whnf)
  refine⟨ns,root,n,F,_,np,pf,at',ex,_,q.toNat,v1,h,_,rfl,rfl,hqe,lc,by omega,by omega,hqk.2.2,sk1,hex1,hld,?_⟩
  conv=>whnf
  repeat ((refine And.intro ?_ ?_);(focus ((conv=>whnf);first|done|exact⟨⟨hi0,hil,rfl⟩,by conv=>whnf⟩));conv=>whnf)
  refine hle _ _ (Le.env ?_ ?_) (ih (i+1) (by omega) h1)
  ·skip
   repeat' (first|exact trivial|((conv=>whnf);first|exact trivial|refine⟨AV.le_refl _,?_⟩|refine⟨ABlk.le_refl _,?_⟩|(refine⟨AV.le_of_eq ?_,?_⟩;focus ((first|exact congrArg intV hw1|fail);done))|(refine⟨ABlk.le_of_eq ?_,?_⟩;focus ((first|exact congrArg intV hw1|fail);done))|fail)|fail)
  ·skip
   repeat' (first|exact trivial|((conv=>whnf);first|exact trivial|refine⟨AV.le_refl _,?_⟩|refine⟨ABlk.le_refl _,?_⟩|(refine⟨AV.le_of_eq ?_,?_⟩;focus ((first|exact congrArg (gnR n) hmx|fail);done))|(refine⟨ABlk.le_of_eq ?_,?_⟩;focus ((first|exact congrArg (gnR n) hmx|fail);done))|fail)|fail)
 ·have h1:¬ (i:Int)<((nd ns b).kids.length:Int):=h1
  obtain rfl:i=(nd ns b).kids.length:=by omega
  have hmx:mixF (rowT ns at' ((nd ns b).kids.take (nd ns b).kids.length)) F G=mixF (stS ns at' b) F G:=mixF_congr fun x=>by rw [List.take_length];exact (rowT_block rt hb hk6 x).symm
  rw [← hmx] at hk
  conv=>whnf
  exact hr _ _ _ (rGK ns root n (mixF (rowT ns at' ((nd ns b).kids.take (nd ns b).kids.length)) F G) np pf) _ (Wk1.refl _ _ _) rfl rfl rGK_cl hk
theorem gnR_set {n:Nat} {G:Nat→GN} {j:Nat} {nx:List Int} {v:AV} {ra:Int} {f:Nat→List AV} (hv:v=.p (nxP nx)) (hf:∀ i,i<n→f i=if i=j then [intV (G j).k,intV (G j).pl,intV (G j).pr,v,intV ra] else pvs (gnF G i)) :
  (ABlk.arr 54 5 0 n f).le (gnR n (setG G j nx ra)):=by
 subst hv
 refine ABlk.arr_eq rfl fun i hi=>?_
 rw [hf i hi]
 by_cases e:i=j
 ·subst e;simp [gnF,setG,pvs,intV]
 ·simp [gnF,setG,e]
def gSt8 (m:Nat):AG:=gput 38 cROf (gput 34 cREnd (gput 74 cRais (gput 69 (cREnt m) (gput 68 (cRLay m) g0))))
theorem gSt8_ok {m:Nat} (h:COk 119 (cRStm m)):GOk Tryz.prog (gSt8 m):=gput_ok rof8_ok (gput_ok rend8_ok (gput_ok rais_ok (gput_ok (rent8_ok (rbeg8_ok m)) (gput_ok (rlay8_ok h) g0_ok))))
theorem rstm8_ok:∀ m,COk 119 (cRStm m):=by
 intro m
 induction m with
 | zero=>rintro args K k ⟨ns,root,n,F,G,np,pf,at',ex,_,p,fo,h,X,_,_,_,_,_,h,_⟩;omega
 | succ m ihm =>
 rintro args K k ⟨ns,root,n,F,G,np,pf,at',ex,_,p,fo,h,X,rfl,rfl,rfl,lc,hp,hpm,hst,sk,hex,hld,hk⟩
 have rt:=lc.rt
 have hlen:=rt.len
 have hmany:=rt.many p hp
 obtain⟨j,hj⟩:∃ j,at' p=j:=⟨_,rfl⟩
 have hjn:j<n:=hj▸lc.lt p hp hst
 have hof:endS n (placeP G (p:Int))=(j:Int):=by rw [← hj];exact lc.of sk p hp hst
 simp only [LaidF,hj] at hld
 obtain⟨hra1,hnx,h11,h12,h16⟩:=hld
 have hkd:∀ q∈(nd ns p).kids,q.toNat<ns.length∧q.toNat≤m∧ExOk ns n F at' ex q.toNat∧q=((q.toNat:Nat):Int):=fun q hq=>by
  obtain⟨q0,q1,_⟩:=rt.kid p hp q hq
  exact⟨by omega,by omega,fun j hj=>hex j ((rt.inn hp).2 (.inr ⟨q,hq,hj⟩)),by omega⟩
 obtain⟨ra,hrae⟩:∃ ra,(if raisesF ns p=true then h else -1)=ra:=⟨_,rfl⟩
 have hra2:(nd ns p).k≠16→(F j).ra=ra:=fun e=>by rw [hra1];simp only [raR,if_neg e];exact hrae
 cases hrf:raisesF ns p
 all_goals
  rw [hrf] at hrae
  simp only [Bool.false_eq_true,reduceIte] at hrae
  by_cases k11:(nd ns p).k=11
  ·obtain⟨a,b,c,hks,hka,hkb,hkc⟩:=rt.kids11 hp k11
   obtain⟨l1,l2⟩:=h11 k11
   have k1:kidsAt ns p 1=(nd ns b.toNat).kids:=by simp only [kidsAt];rw [hks];rfl
   have k2:kidsAt ns p 2=(nd ns c.toNat).kids:=by simp only [kidsAt];rw [hks];rfl
   rw [k1] at l1
   rw [k2] at l2
   have hra:=hra2 (show (nd ns p).k≠16 by omega)
   simp only [nxR,if_pos k11,k1,k2] at hnx
   obtain⟨v1,hv1⟩:∃ v,rowG ns at' m (nd ns b.toNat).kids fo=v:=⟨_,rfl⟩
   obtain⟨v2,hv2⟩:∃ v,rowG ns at' m (nd ns c.toNat).kids fo=v:=⟨_,rfl⟩
   rw [hv1,hv2] at hnx
   have hb:=hkd b (by rw [hks];simp)
   have hc:=hkd c (by rw [hks];simp)
   have hq1:(nd ns p).kids.getD 1 0=((b.toNat:Nat):Int):=by rw [hks];show b=_;exact hb.2.2.2
   have hq2:(nd ns p).kids.getD 2 0=((c.toNat:Nat):Int):=by rw [hks];show c=_;exact hc.2.2.2
   have hl0:(0:Int)<((nd ns p).kids.length:Int):=by rw [hks];exact (by decide:(0:Int)<3)
   have hl1:(1:Int)<((nd ns p).kids.length:Int):=by rw [hks];exact (by decide:(1:Int)<3)
   have hl2:(2:Int)<((nd ns p).kids.length:Int):=by rw [hks];exact (by decide:(2:Int)<3)
   have sk1:=sk.mix (stS ns at' b.toNat)
   have sk2:=sk1.mix (stS ns at' c.toNat)
   have hk:k (.ret unitV) (rGK ns root n (setG (mixF (stS ns at' c.toNat) F (mixF (stS ns at' b.toNat) F G)) j [v1,v2] ra) np pf++X):=by
    rw [set_mix hjn sk2 hnx hra,mixF_mix (U:=fun x=>stS ns at' b.toNat x∨stS ns at' c.toNat x) (fun x=>Iff.rfl),mixF_mix (U:=stS ns at' p) (fun x=>by
     rw [stS_kids rt hp hst,hks,hj]
     have ha:=hkd a (by rw [hks];simp)
     have:=no_ex (at':=at') rt (q:=a.toNat) ha.1 (.inl hka) x
     simp only [rowT,List.mem_cons,List.not_mem_nil,or_false]
     constructor
     ·rintro (⟨q,rfl|rfl|rfl,h⟩|h)
      ·exact absurd h this
      ·exact .inl (.inl h)
      ·exact .inl (.inr h)
      ·exact .inr h
     ·rintro ((h|h)|h)
      ·exact .inl ⟨b,.inr (.inl rfl),h⟩
      ·exact .inl ⟨c,.inr (.inr rfl),h⟩
      ·exact .inr h)]
    exact hk
   refine frameZ (K0:=rGK ns root n G np pf) (gSt8_ok ihm) 19 rfl rGK_cl fun Q hr=>?_
   conv=>whnf
   refine⟨⟨by omega,by omega,rfl⟩,?_⟩
   conv=>whnf
   refine⟨ns,root,n,G,np,pf,_,_,_,rfl,rfl,lc.nl,hof,?_⟩
   conv=>whnf
   refine⟨ns,root,_,p,_,rfl,rfl,rt,hp,hst,hrf,?_⟩
   conv=>whnf
   refine two_eq (fun _=>?_) (fun h=>absurd k11 h)
   conv=>whnf
   refine Chk.mk ⟨by decide,hl1,rfl⟩ ?_
   conv=>whnf
   refine Chk.mk ⟨by decide,hl2,rfl⟩ ?_
   conv=>whnf
   refine⟨ns,root,n,G,np,pf,at',_,(b).toNat,fo,v1,_,rfl,rfl,hq1,rt,(hb).1,(hb).2.1,hkb,lc.nl,lc.of sk,hv1,?_⟩
   conv=>whnf
   repeat ((refine And.intro ?_ ?_);(focus ((conv=>whnf);first|done|exact⟨⟨by decide,hl0,rfl⟩,by conv=>whnf⟩|exact⟨⟨by decide,hl1,rfl⟩,by conv=>whnf⟩|exact⟨⟨by decide,hl2,rfl⟩,by conv=>whnf⟩));conv=>whnf)
   refine⟨ns,root,n,G,np,pf,at',_,(c).toNat,fo,v2,_,rfl,rfl,hq2,rt,(hc).1,(hc).2.1,hkc,lc.nl,lc.of sk,hv2,?_⟩
   conv=>whnf
   repeat ((refine And.intro ?_ ?_);(focus ((conv=>whnf);first|done|exact⟨⟨by decide,hl0,rfl⟩,by conv=>whnf⟩|exact⟨⟨by decide,hl1,rfl⟩,by conv=>whnf⟩|exact⟨⟨by decide,hl2,rfl⟩,by conv=>whnf⟩));conv=>whnf)
   refine Chk.mk ⟨by decide,hl1,rfl⟩ ?_
   conv=>whnf
   refine⟨ns,root,n,F,G,np,pf,at',ex,_,(b).toNat,fo,h,_,rfl,rfl,hq1,lc,(hb).1,(hb).2.1,hkb,sk,(hb).2.2.1,l1,?_⟩
   conv=>whnf
   repeat ((refine And.intro ?_ ?_);(focus ((conv=>whnf);first|done|exact⟨⟨by decide,hl0,rfl⟩,by conv=>whnf⟩|exact⟨⟨by decide,hl1,rfl⟩,by conv=>whnf⟩|exact⟨⟨by decide,hl2,rfl⟩,by conv=>whnf⟩));conv=>whnf)
   refine Chk.mk ⟨by decide,hl2,rfl⟩ ?_
   conv=>whnf
   refine⟨ns,root,n,F,_,np,pf,at',ex,_,(c).toNat,fo,h,_,rfl,rfl,hq2,lc,(hc).1,(hc).2.1,hkc,sk1,(hc).2.2.1,l2,?_⟩
   conv=>whnf
   repeat ((refine And.intro ?_ ?_);(focus ((conv=>whnf);first|done|exact⟨⟨by decide,hl0,rfl⟩,by conv=>whnf⟩|exact⟨⟨by decide,hl1,rfl⟩,by conv=>whnf⟩|exact⟨⟨by decide,hl2,rfl⟩,by conv=>whnf⟩));conv=>whnf)
   repeat' (first|(refine Chk.mk ⟨rfl,rfl⟩ ?_;conv=>whnf)|(refine Chk.mk ⟨rfl,Nat.zero_add _,by omega,by omega,rfl⟩ ?_;conv=>whnf)|((refine And.intro ?_ ?_);(focus ((conv=>whnf);first|done|exact⟨⟨rfl,Nat.zero_add _,by omega,by omega,rfl⟩,by conv=>whnf⟩));conv=>whnf)|(refine And.intro ?_ ?_<;>conv=>whnf)|fail)
   try rw [← hrae] at hk
   exact hr _ _ _ (rGK ns root n (setG (mixF (stS ns at' c.toNat) F (mixF (stS ns at' b.toNat) F G)) j [v1,v2] _) np pf) _ (Wk1.fz4 (r:=3) (kidF [v1,v2]) rfl (row2 rfl rfl) (.inr ⟨_,_,_,_,_,_,rfl,rfl,gn_fz rfl rfl fun i=>gn_upd (Nat.zero_add _) (Nat.zero_add _) rfl rfl i⟩)) rfl rfl rGK_cl hk
  by_cases k12:(nd ns p).k=12
  ·obtain⟨a,b,hks,hka,hkb⟩:=rt.kids12 hp k12
   have l1:=h12 k12
   have k1:kidsAt ns p 1=(nd ns b.toNat).kids:=by simp only [kidsAt];rw [hks];rfl
   rw [k1] at l1
   have hra:=hra2 (show (nd ns p).k≠16 by omega)
   simp only [nxR,if_neg k11,if_pos k12,k1,hj] at hnx
   obtain⟨v1,hv1⟩:∃ v,rowG ns at' m (nd ns b.toNat).kids (j:Int)=v:=⟨_,rfl⟩
   rw [hv1] at hnx
   have hb:=hkd b (by rw [hks];simp)
   have hq1:(nd ns p).kids.getD 1 0=((b.toNat:Nat):Int):=by rw [hks];show b=_;exact hb.2.2.2
   have hl0:(0:Int)<((nd ns p).kids.length:Int):=by rw [hks];exact (by decide:(0:Int)<2)
   have hl1:(1:Int)<((nd ns p).kids.length:Int):=by rw [hks];exact (by decide:(1:Int)<2)
   have hl2:=hl1
   have sk1:=sk.mix (stS ns at' b.toNat)
   have hk:k (.ret unitV) (rGK ns root n (setG (mixF (stS ns at' b.toNat) F G) j [v1,fo] ra) np pf++X):=by
    rw [set_mix hjn sk1 hnx hra,mixF_mix (U:=stS ns at' p) (fun x=>by
     rw [stS_kids rt hp hst,hks,hj]
     have ha:=hkd a (by rw [hks];simp)
     have:=no_ex (at':=at') rt (q:=a.toNat) ha.1 (.inl hka) x
     simp only [rowT,List.mem_cons,List.not_mem_nil,or_false]
     constructor
     ·rintro (⟨q,rfl|rfl,h⟩|h)
      ·exact absurd h this
      ·exact .inl h
      ·exact .inr h
     ·rintro (h|h)
      ·exact .inl ⟨b,.inr rfl,h⟩
      ·exact .inr h)]
    exact hk
   refine frameZ (K0:=rGK ns root n G np pf) (gSt8_ok ihm) 19 rfl rGK_cl fun Q hr=>?_
   conv=>whnf
   refine⟨⟨by omega,by omega,rfl⟩,?_⟩
   conv=>whnf
   refine⟨ns,root,n,G,np,pf,_,_,_,rfl,rfl,lc.nl,hof,?_⟩
   conv=>whnf
   refine⟨ns,root,_,p,_,rfl,rfl,rt,hp,hst,hrf,?_⟩
   conv=>whnf
   refine two_eq (fun h=>absurd (show (nd ns p).k=11 from h) (k11)) (fun _=>?_)
   conv=>whnf
   refine two_eq (fun _=>?_) (fun h=>absurd k12 h)
   conv=>whnf
   refine Chk.mk ⟨by decide,hl1,rfl⟩ ?_
   conv=>whnf
   refine⟨ns,root,n,G,np,pf,at',_,(b).toNat,(j:Int),v1,_,rfl,rfl,hq1,rt,(hb).1,(hb).2.1,hkb,lc.nl,lc.of sk,hv1,?_⟩
   conv=>whnf
   repeat ((refine And.intro ?_ ?_);(focus ((conv=>whnf);first|done|exact⟨⟨by decide,hl0,rfl⟩,by conv=>whnf⟩|exact⟨⟨by decide,hl1,rfl⟩,by conv=>whnf⟩|exact⟨⟨by decide,hl2,rfl⟩,by conv=>whnf⟩));conv=>whnf)
   refine Chk.mk ⟨by decide,hl1,rfl⟩ ?_
   conv=>whnf
   refine⟨ns,root,n,F,G,np,pf,at',ex,_,(b).toNat,(j:Int),h,_,rfl,rfl,hq1,lc,(hb).1,(hb).2.1,hkb,sk,(hb).2.2.1,l1,?_⟩
   conv=>whnf
   repeat ((refine And.intro ?_ ?_);(focus ((conv=>whnf);first|done|exact⟨⟨by decide,hl0,rfl⟩,by conv=>whnf⟩|exact⟨⟨by decide,hl1,rfl⟩,by conv=>whnf⟩|exact⟨⟨by decide,hl2,rfl⟩,by conv=>whnf⟩));conv=>whnf)
   repeat' (first|(refine Chk.mk ⟨rfl,rfl⟩ ?_;conv=>whnf)|(refine Chk.mk ⟨rfl,Nat.zero_add _,by omega,by omega,rfl⟩ ?_;conv=>whnf)|((refine And.intro ?_ ?_);(focus ((conv=>whnf);first|done|exact⟨⟨rfl,Nat.zero_add _,by omega,by omega,rfl⟩,by conv=>whnf⟩));conv=>whnf)|(refine And.intro ?_ ?_<;>conv=>whnf)|fail)
   try rw [← hrae] at hk
   exact hr _ _ _ (rGK ns root n (setG (mixF (stS ns at' b.toNat) F G) j [v1,fo] _) np pf) _ (Wk1.fz4 (r:=3) (kidF [v1,fo]) rfl (row2 rfl rfl) (.inr ⟨_,_,_,_,_,_,rfl,rfl,gn_fz rfl rfl fun i=>gn_upd (Nat.zero_add _) (Nat.zero_add _) rfl rfl i⟩)) rfl rfl rGK_cl hk
  by_cases k16:(nd ns p).k=16
  ·obtain⟨b,c,hks,hkb,hkc⟩:=rt.kids16 hp k16
   obtain⟨l1,l2⟩:=h16 k16
   have k0:kidsAt ns p 0=(nd ns b.toNat).kids:=by simp only [kidsAt];rw [hks];rfl
   have k1:kidsAt ns p 1=(nd ns c.toNat).kids:=by simp only [kidsAt];rw [hks];rfl
   rw [k0] at l1
   rw [k1] at l2
   have hra:(F j).ra=-1:=by rw [hra1];simp only [raR,if_pos k16]
   simp only [nxR,if_neg k11,if_neg k12,if_pos k16,k1] at hnx
   obtain⟨v2,hv2⟩:∃ v,rowG ns at' m (nd ns c.toNat).kids fo=v:=⟨_,rfl⟩
   rw [hv2] at hnx
   have hb:=hkd b (by rw [hks];simp)
   have hc:=hkd c (by rw [hks];simp)
   have hq1:(nd ns p).kids.getD 0 0=((b.toNat:Nat):Int):=by rw [hks];show b=_;exact hb.2.2.2
   have hq2:(nd ns p).kids.getD 1 0=((c.toNat:Nat):Int):=by rw [hks];show c=_;exact hc.2.2.2
   have hl0:(0:Int)<((nd ns p).kids.length:Int):=by rw [hks];exact (by decide:(0:Int)<2)
   have hl1:(1:Int)<((nd ns p).kids.length:Int):=by rw [hks];exact (by decide:(1:Int)<2)
   have hl2:=hl1
   have sk1:=sk.mix (stS ns at' b.toNat)
   have sk2:=sk1.mix (stS ns at' c.toNat)
   have hk:k (.ret unitV) (rGK ns root n (setG (mixF (stS ns at' c.toNat) F (mixF (stS ns at' b.toNat) F G)) j [v2] (-1)) np pf++X):=by
    rw [set_mix hjn sk2 hnx hra,mixF_mix (U:=fun x=>stS ns at' b.toNat x∨stS ns at' c.toNat x) (fun x=>Iff.rfl),mixF_mix (U:=stS ns at' p) (fun x=>by
     rw [stS_kids rt hp hst,hks,hj]
     simp only [rowT,List.mem_cons,List.not_mem_nil,or_false]
     constructor
     ·rintro (⟨q,rfl|rfl,h⟩|h)
      ·exact .inl (.inl h)
      ·exact .inl (.inr h)
      ·exact .inr h
     ·rintro ((h|h)|h)
      ·exact .inl ⟨b,.inl rfl,h⟩
      ·exact .inl ⟨c,.inr rfl,h⟩
      ·exact .inr h)]
    exact hk
   refine frameZ (K0:=rGK ns root n G np pf) (gSt8_ok ihm) 19 rfl rGK_cl fun Q hr=>?_
   conv=>whnf
   refine⟨⟨by omega,by omega,rfl⟩,?_⟩
   conv=>whnf
   refine⟨ns,root,n,G,np,pf,_,_,_,rfl,rfl,lc.nl,hof,?_⟩
   conv=>whnf
   refine⟨ns,root,_,p,_,rfl,rfl,rt,hp,hst,hrf,?_⟩
   conv=>whnf
   refine two_eq (fun h=>absurd (show (nd ns p).k=11 from h) (k11)) (fun _=>?_)
   conv=>whnf
   refine two_eq (fun h=>absurd (show (nd ns p).k=12 from h) (k12)) (fun _=>?_)
   conv=>whnf
   refine two_eq (fun _=>?_) (fun h=>absurd k16 h)
   conv=>whnf
   refine Chk.mk ⟨by decide,hl1,rfl⟩ ?_
   conv=>whnf
   refine⟨ns,root,n,G,np,pf,at',_,(c).toNat,fo,v2,_,rfl,rfl,hq2,rt,(hc).1,(hc).2.1,hkc,lc.nl,lc.of sk,hv2,?_⟩
   conv=>whnf
   repeat ((refine And.intro ?_ ?_);(focus ((conv=>whnf);first|done|exact⟨⟨by decide,hl0,rfl⟩,by conv=>whnf⟩|exact⟨⟨by decide,hl1,rfl⟩,by conv=>whnf⟩|exact⟨⟨by decide,hl2,rfl⟩,by conv=>whnf⟩));conv=>whnf)
   refine Chk.mk ⟨by decide,hl0,rfl⟩ ?_
   conv=>whnf
   refine⟨ns,root,n,F,G,np,pf,at',ex,_,(b).toNat,fo,(j:Int),_,rfl,rfl,hq1,lc,(hb).1,(hb).2.1,hkb,sk,(hb).2.2.1,l1,?_⟩
   conv=>whnf
   repeat ((refine And.intro ?_ ?_);(focus ((conv=>whnf);first|done|exact⟨⟨by decide,hl0,rfl⟩,by conv=>whnf⟩|exact⟨⟨by decide,hl1,rfl⟩,by conv=>whnf⟩|exact⟨⟨by decide,hl2,rfl⟩,by conv=>whnf⟩));conv=>whnf)
   refine Chk.mk ⟨by decide,hl1,rfl⟩ ?_
   conv=>whnf
   refine⟨ns,root,n,F,_,np,pf,at',ex,_,(c).toNat,fo,h,_,rfl,rfl,hq2,lc,(hc).1,(hc).2.1,hkc,sk1,(hc).2.2.1,l2,?_⟩
   conv=>whnf
   repeat ((refine And.intro ?_ ?_);(focus ((conv=>whnf);first|done|exact⟨⟨by decide,hl0,rfl⟩,by conv=>whnf⟩|exact⟨⟨by decide,hl1,rfl⟩,by conv=>whnf⟩|exact⟨⟨by decide,hl2,rfl⟩,by conv=>whnf⟩));conv=>whnf)
   repeat' (first|(refine Chk.mk ⟨rfl,rfl⟩ ?_;conv=>whnf)|(refine Chk.mk ⟨rfl,Nat.zero_add _,by omega,by omega,rfl⟩ ?_;conv=>whnf)|((refine And.intro ?_ ?_);(focus ((conv=>whnf);first|done|exact⟨⟨rfl,Nat.zero_add _,by omega,by omega,rfl⟩,by conv=>whnf⟩));conv=>whnf)|(refine And.intro ?_ ?_<;>conv=>whnf)|fail)
   try rw [← hrae] at hk
   exact hr _ _ _ (rGK ns root n (setG (mixF (stS ns at' c.toNat) F (mixF (stS ns at' b.toNat) F G)) j [v2] _) np pf) _ (Wk1.fz4 (r:=3) (kidF [v2]) rfl (row1 rfl) (.inr ⟨_,_,_,_,_,_,rfl,rfl,gn_fz rfl rfl fun i=>gn_upd (Nat.zero_add _) (Nat.zero_add _) rfl rfl i⟩)) rfl rfl rGK_cl hk
  have hra:=hra2 k16
  have hk:k (.ret unitV) (rGK ns root n (setG G j (nxR ns at' ex m p fo) ra) np pf++X):=by
   rw [set_mix hjn sk hnx hra,mixF_congr (T:=stS ns at' p) fun x=>by rw [stS_leaf rt hp hst k11 k12 k16,hj]]
   exact hk
  simp only [nxR,if_neg k11,if_neg k12,if_neg k16] at hk
  by_cases k14:(nd ns p).k=14
  ·rw [if_pos k14] at hk
   have hexv:endS n (kindP G 2 (G (0+((j:Int)).toNat)).pr)=ex:=by
    rw [Nat.zero_add,Int.toNat_natCast,sk.kind,(sk j hjn).2.2,← hj]
    exact hex p ((rt.inn hp).2 (.inl ⟨rfl,hst⟩))
   refine frameZ (K0:=rGK ns root n G np pf) (gSt8_ok ihm) 19 rfl rGK_cl fun Q hr=>?_
   conv=>whnf
   refine⟨⟨by omega,by omega,rfl⟩,?_⟩
   conv=>whnf
   refine⟨ns,root,n,G,np,pf,_,_,_,rfl,rfl,lc.nl,hof,?_⟩
   conv=>whnf
   refine⟨ns,root,_,p,_,rfl,rfl,rt,hp,hst,hrf,?_⟩
   conv=>whnf
   refine two_eq (fun h=>absurd (show (nd ns p).k=11 from h) (k11)) (fun _=>?_)
   conv=>whnf
   refine two_eq (fun h=>absurd (show (nd ns p).k=12 from h) (k12)) (fun _=>?_)
   conv=>whnf
   refine two_eq (fun h=>absurd (show (nd ns p).k=16 from h) (k16)) (fun _=>?_)
   conv=>whnf
   refine two_eq (fun _=>?_) (fun h=>absurd k14 h)
   conv=>whnf
   refine Chk.mk ⟨rfl,Nat.zero_add _,by omega,by omega,rfl⟩ ?_
   conv=>whnf
   refine Chk.mk ⟨rfl,rfl⟩ ?_
   conv=>whnf
   refine⟨ns,root,n,G,np,pf,2,_,ex,_,rfl,rfl,lc.nl,hexv,?_⟩
   conv=>whnf
   repeat' (first|(refine Chk.mk ⟨rfl,rfl⟩ ?_;conv=>whnf)|(refine Chk.mk ⟨rfl,Nat.zero_add _,by omega,by omega,rfl⟩ ?_;conv=>whnf)|((refine And.intro ?_ ?_);(focus ((conv=>whnf);first|done|exact⟨⟨rfl,Nat.zero_add _,by omega,by omega,rfl⟩,by conv=>whnf⟩));conv=>whnf)|(refine And.intro ?_ ?_<;>conv=>whnf)|fail)
   try rw [← hrae] at hk
   exact hr _ _ _ (rGK ns root n (setG (G) j [ex] _) np pf) _ (Wk1.fz4 (r:=3) (kidF [ex]) rfl (row1 rfl) (.inr ⟨_,_,_,_,_,_,rfl,rfl,gn_fz rfl rfl fun i=>gn_upd (Nat.zero_add _) (Nat.zero_add _) rfl rfl i⟩)) rfl rfl rGK_cl hk
  rw [if_neg k14] at hk
  by_cases k15:(nd ns p).k=15
  ·rw [if_pos k15] at hk
   refine frameZ (K0:=rGK ns root n G np pf) (gSt8_ok ihm) 19 rfl rGK_cl fun Q hr=>?_
   conv=>whnf
   refine⟨⟨by omega,by omega,rfl⟩,?_⟩
   conv=>whnf
   refine⟨ns,root,n,G,np,pf,_,_,_,rfl,rfl,lc.nl,hof,?_⟩
   conv=>whnf
   refine⟨ns,root,_,p,_,rfl,rfl,rt,hp,hst,hrf,?_⟩
   conv=>whnf
   refine two_eq (fun h=>absurd (show (nd ns p).k=11 from h) (k11)) (fun _=>?_)
   conv=>whnf
   refine two_eq (fun h=>absurd (show (nd ns p).k=12 from h) (k12)) (fun _=>?_)
   conv=>whnf
   refine two_eq (fun h=>absurd (show (nd ns p).k=16 from h) (k16)) (fun _=>?_)
   conv=>whnf
   refine two_eq (fun h=>absurd (show (nd ns p).k=14 from h) (k14)) (fun _=>?_)
   conv=>whnf
   refine two_eq (fun _=>?_) (fun h=>absurd k15 h)
   conv=>whnf
   repeat' (first|(refine Chk.mk ⟨rfl,rfl⟩ ?_;conv=>whnf)|(refine Chk.mk ⟨rfl,Nat.zero_add _,by omega,by omega,rfl⟩ ?_;conv=>whnf)|((refine And.intro ?_ ?_);(focus ((conv=>whnf);first|done|exact⟨⟨rfl,Nat.zero_add _,by omega,by omega,rfl⟩,by conv=>whnf⟩));conv=>whnf)|(refine And.intro ?_ ?_<;>conv=>whnf)|fail)
   try rw [← hrae] at hk
   exact hr _ _ _ (rGK ns root n (setG G j [] _) np pf) _ (Wk1.le (AV.le_refl _) ⟨ABlk.le_refl _,ABlk.le_refl _,ABlk.le_refl _,gnR_set rfl (fun i _=>gn_upd (Nat.zero_add _) (Nat.zero_add _) rfl rfl i),lesK.refl _⟩) rfl rfl rGK_cl hk
  rw [if_neg k15] at hk
  refine frameZ (K0:=rGK ns root n G np pf) (gSt8_ok ihm) 19 rfl rGK_cl fun Q hr=>?_
  conv=>whnf
  refine⟨⟨by omega,by omega,rfl⟩,?_⟩
  conv=>whnf
  refine⟨ns,root,n,G,np,pf,_,_,_,rfl,rfl,lc.nl,hof,?_⟩
  conv=>whnf
  refine⟨ns,root,_,p,_,rfl,rfl,rt,hp,hst,hrf,?_⟩
  conv=>whnf
  refine two_eq (fun h=>absurd (show (nd ns p).k=11 from h) (k11)) (fun _=>?_)
  conv=>whnf
  refine two_eq (fun h=>absurd (show (nd ns p).k=12 from h) (k12)) (fun _=>?_)
  conv=>whnf
  refine two_eq (fun h=>absurd (show (nd ns p).k=16 from h) (k16)) (fun _=>?_)
  conv=>whnf
  refine two_eq (fun h=>absurd (show (nd ns p).k=14 from h) (k14)) (fun _=>?_)
  conv=>whnf
  refine two_eq (fun h=>absurd (show (nd ns p).k=15 from h) (k15)) (fun _=>?_)
  conv=>whnf
  repeat' (first|(refine Chk.mk ⟨rfl,rfl⟩ ?_;conv=>whnf)|(refine Chk.mk ⟨rfl,Nat.zero_add _,by omega,by omega,rfl⟩ ?_;conv=>whnf)|((refine And.intro ?_ ?_);(focus ((conv=>whnf);first|done|exact⟨⟨rfl,Nat.zero_add _,by omega,by omega,rfl⟩,by conv=>whnf⟩));conv=>whnf)|(refine And.intro ?_ ?_<;>conv=>whnf)|fail)
  try rw [← hrae] at hk
  exact hr _ _ _ (rGK ns root n (setG (G) j [fo] _) np pf) _ (Wk1.fz4 (r:=2) (kidF [fo]) rfl (row1 rfl) (.inr ⟨_,_,_,_,_,_,rfl,rfl,gn_fz rfl rfl fun i=>gn_upd (Nat.zero_add _) (Nat.zero_add _) rfl rfl i⟩)) rfl rfl rGK_cl hk
end Go.Proofs.YtojjkleplnijaaaGreatDoor
namespace Go.Ru
section
variable {ns:List Nd} {root:Int} (rt:RightT ns root)
include rt
theorem RightT.only3 {j:Nat} (hj:j<ns.length) (h3:(nd ns j).k=3):(j:Int)∈(nd ns root.toNat).kids:=by
 have hpos:=rt.pos
 have hrt:=rt.rt
 have hne:(j:Int)≠root:=fun e=>by
  have:=rt.top
  rw [← e,Int.toNat_natCast] at this
  omega
 obtain⟨p,p1,p2,p3,_⟩:=rt.up hj hne
 have hk:=rt.kidk p2 p3
 simp only [Int.toNat_natCast] at hk
 have hp1:(nd ns p).k=1:=by
  rcases hk with h|h|h|h|h|h|h
  ·exact h.1
  ·omega
  ·have:=stB_iff.1 h.2;omega
  ·have:=exB_iff.1 h.2.2;omega
  ·omega
  ·omega
  ·omega
 by_cases hp:(p:Int)=root
 ·rw [← hp,Int.toNat_natCast];exact p3
 ·obtain⟨p',q1,q2,q3,_⟩:=rt.up p2 hp
  have hk:=rt.kidk q2 q3
  simp only [Int.toNat_natCast] at hk
  rcases hk with h|h|h|h|h|h|h
  ·omega
  ·omega
  ·have:=stB_iff.1 h.2;omega
  ·have:=exB_iff.1 h.2.2;omega
  ·omega
  ·omega
  ·omega
omit rt in
theorem prcL_same {a:Nat}:∀ m,(∀ j,a≤j→j<a+m→(nd ns j).k≠3)→prcL ns (a+m)=prcL ns a:=by
 intro m
 induction m with
 | zero=>intro _;rfl
 | succ m ih =>
  intro h
  have e:prcL ns (a+(m+1))=prcL ns (a+m)++(if (nd ns (a+m)).k=3 then [((a+m:Nat):Int)] else []):=rfl
  rw [e,if_neg (h (a+m) (by omega) (by omega)),List.append_nil]
  exact ih fun j h1 h2=>h j h1 (by omega)
structure EInv (ns:List Nd) (root:Int) (s:BSt):Prop where
 ps:s.ps=prcL ns s.fst
 cr:SameB (crP ns root s.ps 0 (0,fun _=>default)) s.n s.f
 pr:∀ (at':Nat→Nat) (F:Nat→GN),(∀ j,j<s.fst→stB (nd ns j).k=true→atO s.of j=at' j)→(∀ x,x<s.n→F x=s.f x)→∀ c,c<s.ps.length→∃ x q b:Nat,x+3≤s.n∧s.ps[c]?=some (q:Int)∧ProcL ns root at' F c x q b
theorem EInv.step {s:BSt} (h:EInv ns root s) {d l:List Int} {q:Int} (hb:BPre ns root d (q::l) s):EInv ns root (stepB ns s q.toNat):=by
 obtain⟨sh,q0,_⟩:=step_h rt hb.hd hb.ahead hb.left
 obtain⟨e,hi⟩:=hb.inv
 have hrt:=rt.rt
 have hlt:=sh.lt
 have hlo:=sh.lo
 have hno:∀ j:Nat,s.fst≤j→j<q.toNat→(nd ns j).k≠3:=fun j h1 h2 e3=>by
  have hm:=rt.only3 (by omega) e3
  have hqm:q∈(nd ns root.toNat).kids:=by rw [hb.hd];simp
  have:=rt.apart root.toNat (by have:=rt.pos;omega) (j:Int) hm q hqm (by omega)
  have:=sh.hin j h1 (by omega)
  omega
 have hps:prcL ns q.toNat=prcL ns s.fst:=by
  have:=prcL_same (ns:=ns) (a:=s.fst) (q.toNat - s.fst) fun j h1 h2=>hno j h1 (by omega)
  rwa [show s.fst+(q.toNat - s.fst)=q.toNat by omega] at this
 by_cases k3:(nd ns q.toNat).k=3
 ·have L:=lay_new rt hi hlo hlt k3 sh.hin sh.hout
  have e1:stepB ns s q.toNat=layS ns s q.toNat:=by simp only [stepB,beq_iff_eq.2 k3]
  rw [e1]
  have hpl:(layS ns s q.toNat).ps.length=s.ps.length+1:=by rw [L.ps];simp
  refine⟨?_,?_,fun at' F ha hF c hc=>?_⟩
  ·rw [L.ps,L.fst]
   simp only [prcL,if_pos k3]
   rw [hps,h.ps]
  ·rw [L.ps,crP_snoc]
   have:=L.cr _ h.cr
   simpa using this
  ·by_cases ec:c=s.ps.length
   ·subst ec
    obtain⟨b,hP⟩:=L.nw at' F (fun j hj=>ha j (by rw [L.fst];exact hj)) hF
    exact⟨s.n,q.toNat,b,L.n,by rw [L.ps];simp,hP⟩
   ·have hn:=L.n
    obtain⟨x,q',b,a1,a2,a3⟩:=h.pr at' F (fun j hj hs=>by
     rw [← ha j (by rw [L.fst];omega) hs]
     simp only [atO];rw [L.ofo j hj]) (fun x hx=>by rw [hF x (by omega)];exact L.old x hx) c (by omega)
    exact⟨x,q',b,by omega,by rw [L.ps,List.getElem?_append_left (by omega)];exact a2,a3⟩
 ·have e1:stepB ns s q.toNat=⟨s.n,s.f,s.of,s.ps,q.toNat+1⟩:=by simp only [stepB,beq_eq_false_iff_ne.2 k3]
  rw [e1]
  refine⟨?_,h.cr,fun at' F ha hF=>h.pr at' F (fun j hj=>ha j (by simp only;omega)) hF⟩
  simp only [prcL,if_neg k3,List.append_nil]
  rw [hps];exact h.ps
theorem einv_go:∀ (l d:List Int) (s:BSt),BPre ns root d l s→EInv ns root s→EInv ns root (buildR ns l s)∧prcL ns ns.length=prcL ns (buildR ns l s).fst∧(buildR ns l s).fst≤ns.length:=by
 intro l
 induction l with
 | nil =>
  intro d s hb h
  have hpos:=rt.pos
  have hrt:=rt.rt
  obtain⟨e,hi⟩:=hb.inv
  have hf:=hi.fst
  refine⟨h,?_,by simp only [buildR];omega⟩
  simp only [buildR]
  have:=prcL_same (ns:=ns) (a:=s.fst) (ns.length - s.fst) fun j h1 h2 e3=>by
   have hm:=rt.only3 (by omega) e3
   have:=hb.hd
   rw [this] at hm
   have:=hb.ahead (j:Int) (by simpa using hm)
   omega
  rwa [show s.fst+(ns.length - s.fst)=ns.length by omega] at this
 | cons q l ih =>
  intro d s hb h
  rw [buildR_cons]
  exact ih _ _ (hb.step rt) (h.step rt hb)
structure Build8 (ns:List Nd) (root:Int) (s:BSt):Prop where
 ps:s.ps=prcL ns ns.length
 cr:SameB (crP ns root s.ps 0 (0,fun _=>default)) s.n s.f
 pr:∀ c,c<s.ps.length→∃ x q b:Nat,x+3≤s.n∧s.ps[c]?=some (q:Int)∧ProcL ns root (atO s.of) s.f c x q b
 ofs:∀ j,j<ns.length→stB (nd ns j).k=true→endS s.n (placeP s.f (j:Int))=((atO s.of j:Nat):Int)∧atO s.of j<s.n
 ends:∀ c x q b,c<s.ps.length→x+3≤s.n→ProcL ns root (atO s.of) s.f c x q b→endS s.n (kindP s.f 1 (c:Int))=(x:Int)∧endS s.n (kindP s.f 2 (c:Int))=(x:Int)+1∧endS s.n (kindP s.f 3 (c:Int))=(x:Int)+2
 prof:∀ c x (q:Nat) b,c<s.ps.length→s.ps[c]?=some (q:Int)→ProcL ns root (atO s.of) s.f c x q b→∀ j,Inn ns b j→(s.f (atO s.of j)).pr=(c:Int)
 cover:∀ y,y<s.n→s.f y=baseG (s.f y)∨∃ c x,∃ q:Nat,∃ b,c<s.ps.length∧x+3≤s.n∧s.ps[c]?=some (q:Int)∧ProcL ns root (atO s.of) s.f c x q b∧(y=x∨stS ns (atO s.of) b y)
theorem build8:Build8 ns root (buildS ns root):=by
 obtain⟨e,hi,hall⟩:=build_ok rt
 obtain⟨he,hp,hfl⟩:=einv_go rt (nd ns root.toNat).kids [] bst0 (bpre0 rt) ⟨rfl,⟨rfl,fun x hx=>by simp [bst0] at hx⟩,fun _ _ _ _ c hc=>by simp [bst0] at hc⟩
 obtain⟨s,hs⟩:∃ s,buildS ns root=s:=⟨_,rfl⟩
 have hs':buildR ns (nd ns root.toNat).kids bst0=s:=hs
 rw [hs'] at he hp hfl
 rw [hs] at hi hall ⊢
 have hpr:=he.pr (atO s.of) s.f (fun _ _ _=>rfl) (fun _ _=>rfl)
 have hst:∀ j,j<ns.length→stB (nd ns j).k=true→j<s.fst:=fun j h1 h2=>by
  by_cases h:j<s.fst
  ·exact h
  ·have:=hall j (by omega) h1;rw [this] at h2;cases h2
 have hends:∀ c x q b,c<s.ps.length→x+3≤s.n→ProcL ns root (atO s.of) s.f c x q b→endS s.n (kindP s.f 1 (c:Int))=(x:Int)∧endS s.n (kindP s.f 2 (c:Int))=(x:Int)+1∧endS s.n (kindP s.f 3 (c:Int))=(x:Int)+2:=fun c x q b hc hx P=>by
  obtain⟨g1,g2,g3⟩:=hi.end1 hc
  have hx1:x=e c:=by
   rcases hi.what (x:=x) (by omega) with ⟨c',hc',h,hpr'⟩|⟨i,c',_,_,_,_,_,h4,_⟩
   ·rw [P.f0] at h hpr'
    simp only at h hpr'
    have:c'=c:=by omega
    subst this
    rcases h with ⟨h,_⟩|⟨_,h⟩|⟨_,h⟩
    ·exact h
    ·omega
    ·omega
   ·rw [P.f0] at h4;simp at h4
  subst hx1
  refine⟨g1,?_,?_⟩
  ·have g2:endS s.n (kindP s.f 2 (c:Int))=((e c+1:Nat):Int):=g2
   rw [g2];omega
  ·have g3:endS s.n (kindP s.f 3 (c:Int))=((e c+2:Nat):Int):=g3
   rw [g3];omega
 have hofs:∀ j,j<ns.length→stB (nd ns j).k=true→endS s.n (placeP s.f (j:Int))=((atO s.of j:Nat):Int)∧atO s.of j<s.n:=fun j h1 h2=>by
  obtain⟨x,c,a1,a2,a3,a4,a5⟩:=hi.st j (hst j h1 h2) h2
  have hax:atO s.of j=x:=by simp [atO,a1]
  rw [hax]
  refine⟨endS_one a2 ?_ fun y hy hpy=>?_,a2⟩
  ·simp only [placeP,a5.k,a5.pl,beq_self_eq_true,Bool.and_true]
  ·simp only [placeP,Bool.and_eq_true,beq_iff_eq] at hpy
   rcases hi.what hy with ⟨c',hc',h,_⟩|⟨i,c',b1,b2,b3,_,_,_,b7,_⟩
   ·rcases h with ⟨_,h⟩|⟨_,h⟩|⟨_,h⟩<;>omega
   ·rw [b7] at hpy
    have:i=j:=by omega
    subst this
    rw [a1] at b3
    injection b3 with b3
    exact b3.symm
 refine⟨he.ps.trans hp.symm,he.cr,hpr,hofs,hends,fun c x q b hc hq P j hj=>?_,fun y hy=>?_⟩
 ·have hjl:j<ns.length:=by have:=P.bq;have:=P.ql;have:=hj.2.1;omega
  obtain⟨h1,h2⟩:=(P.sts j hjl).1 hj
  obtain⟨y,c',a1,a2,a3,a4,a5⟩:=hi.st j (hst j hjl h1) h1
  have hax:atO s.of j=y:=by simp [atO,a1]
  rw [hax,a5.pr]
  obtain⟨qc,g1,g2,_,_,⟨bb,g5,_⟩,_⟩:=hi.pr c hc
  obtain⟨qc',g1',g2',_,_,⟨bb',g5',_⟩,_⟩:=hi.pr c' a3
  rw [g1'] at a4
  injection a4 with a4
  rw [h2] at a4
  rw [g1] at hq
  injection hq with hq
  show (c':Int)=(c:Int)
  have hprc:∀ m,(prcL ns m).Pairwise (fun a b=>a<b)∧∀ x∈prcL ns m,x<(m:Int):=by
   intro m
   induction m with
   | zero=>exact⟨List.Pairwise.nil,fun x hx=>by simp [prcL] at hx⟩
   | succ m ih =>
    simp only [prcL]
    refine⟨List.pairwise_append.2 ⟨ih.1,by split<;>simp,fun a ha b hb=>?_⟩,fun x hx=>?_⟩
    ·split at hb
     ·simp only [List.mem_cons,List.not_mem_nil,or_false] at hb
      subst hb;exact ih.2 a ha
     ·simp at hb
    ·rcases List.mem_append.1 hx with hx|hx
     ·have:=ih.2 x hx;omega
     ·split at hx
      ·simp only [List.mem_cons,List.not_mem_nil,or_false] at hx
       subst hx;omega
      ·simp at hx
  have hpw:=(hprc s.fst).1
  rw [← he.ps] at hpw
  have e1:s.ps[c']?=s.ps[c]?:=by rw [g1,g1'];congr 1;omega
  rw [List.getElem?_eq_getElem hc,List.getElem?_eq_getElem a3] at e1
  injection e1 with e1
  by_cases h1:c'<c
  ·have:=List.pairwise_iff_getElem.1 hpw c' c a3 hc h1;omega
  by_cases h2:c<c'
  ·have:=List.pairwise_iff_getElem.1 hpw c c' hc a3 h2;omega
  omega
 ·rcases hi.what hy with ⟨c,hc,h,_⟩|⟨i,c,b1,b2,b3,b4,b5,_⟩
  ·obtain⟨x,q,b,a1,a2,P⟩:=hpr c hc
   obtain⟨g1,g2,g3⟩:=hends c x q b hc a1 P
   obtain⟨k1,k2,k3⟩:=hi.end1 hc
   have hx1:x=e c:=by
    have k1:endS s.n (kindP s.f 1 (c:Int))=((e c:Nat):Int):=k1
    rw [g1] at k1;omega
   subst hx1
   rcases h with ⟨rfl,_⟩|⟨rfl,_⟩|⟨rfl,_⟩
   ·exact .inr ⟨c,_,q,b,hc,a1,a2,P,.inl rfl⟩
   ·left;rw [P.f1];rfl
   ·left;rw [P.f2];rfl
  ·obtain⟨x,q,b,a1,a2,P⟩:=hpr c b4
   refine .inr ⟨c,x,q,b,b4,a1,a2,P,.inr ⟨i,?_,by simp [atO,b3]⟩⟩
   have hil:i<ns.length:=by omega
   refine (P.sts i hil).2 ⟨b2,?_⟩
   rw [a2] at b5
   injection b5 with b5
   exact b5.symm
end
end Go.Ru
namespace Go.Ru
def boolW:List Bs:=[[33],[38,38],[124,124]]
theorem bool_any (t:Bs):boolW.any (·==t)=decide (t=[33]∨t=[38,38]∨t=[124,124]):=by
 have c:∀ a:Bs,(a==t)=decide (t=a):=fun a=>Bool.eq_iff_iff.2 (by rw [beq_iff_eq,decide_eq_true_eq];exact eq_comm)
 simp only [boolW,List.any_cons,List.any_nil,Bool.or_false,c]
 simp only [Bool.decide_or]
end Go.Ru
namespace Go.Proofs.YtojjkleplnijaaaGreatDoor
open Go.AE Go.Ru
set_option maxRecDepth 100000
set_option maxHeartbeats 1000000
def cRall7:AC:=fun args K k=>∃ ns root kind l n f b,args=[treeV ns root,.p (.sl 1 n f),intV kind]∧n=List.length l∧(∀ i,i<n→f i=kidF l i)∧RightT ns root∧List.length l<1000000∧(∀ q∈l,0≤q∧q<(List.length ns:Int))∧allS ns root l kind=b∧k (.ret (.p (.bool b))) K
theorem rall7_ok:COk 153 cRall7:=by
 rintro args K k ⟨ns,root,kind,l,n,f,b,rfl,rfl,hf,rt,hl,hq,rfl,hk⟩
 refine ACalls.pre (?_:ACalls _ _ [treeV ns root,intsV l,intV kind] K k) (Wk.le ⟨AV.le_refl _,AV.sl_le rfl fun i hi=>(hf i hi).symm,AV.le_refl _,trivial⟩ (lesK.refl K))
 refine frame0P (gput_ok rtyped_ok g0_ok) 19 rfl fun Q hr=>?_
 conv=>whnf
 refine loop_up (ι:=Nat) [1,2,3] (fun j=>[(7,intV j)]) (fun _=>[]) (fun j=>j≤l.length∧allS ns root (l.drop j) kind=allS ns root l kind) (fun j=>l.length - j) 0 ⟨AV.le_refl _,trivial⟩ trivial ⟨Nat.zero_le _,by simp⟩ ?_
 rintro Y hle i ⟨hi,he⟩ ih
 conv=>whnf
 refine two_dec (fun h=>?_) (fun h=>?_)
 ·have h:i<l.length:=by have h:(i:Int)<(l.length:Int):=h;omega
  have h':(i:Int)<(l.length:Int):=by omega
  have hw1:=wzz (i:=i) (by omega)
  have hqi:=hq _ (getD_mem h)
  have e1:l.getD i 0=l[i]:=by simp [h]
  rw [List.drop_eq_getElem_cons h,← e1] at he
  simp only [allS,List.all_cons] at he
  obtain⟨v,hv⟩:∃ v,tyS ns root (l.getD i 0).toNat=v:=⟨_,rfl⟩
  rw [hv] at he
  conv=>whnf
  refine⟨⟨by omega,h',rfl⟩,?_⟩
  conv=>whnf
  refine⟨ns,root,_,(l.getD i 0).toNat,v,rfl,(Int.toNat_of_nonneg hqi.1).symm,rt,by omega,hv,?_⟩
  conv=>whnf
  refine two_ne (fun h2=>?_) (fun h2=>?_)
  ·have h2:v≠kind:=h2
   rw [beq_eq_false_iff_ne.2 h2,Bool.false_and] at he
   have hk:k (.ret (.p (.bool false))) K:=by rw [show allS ns root l kind=false from he.symm] at hk;exact hk
   conv=>whnf
   exact hr _ _ rfl hk
  ·have h2:v=kind:=h2
   rw [beq_iff_eq.2 h2,Bool.true_and] at he
   conv=>whnf
   refine hle _ _ (Le.env ?_ ?_) (ih (i+1) (by omega) ⟨by omega,he⟩)
   ·skip
    repeat' (first|exact trivial|((conv=>whnf);first|exact trivial|refine⟨AV.le_refl _,?_⟩|refine⟨ABlk.le_refl _,?_⟩|(refine⟨AV.le_of_eq ?_,?_⟩;focus ((first|exact congrArg intV hw1|fail);done))|(refine⟨ABlk.le_of_eq ?_,?_⟩;focus ((first|exact congrArg intV hw1|fail);done))|fail)|fail)
   ·skip
    repeat' (first|exact trivial|((conv=>whnf);first|exact trivial|refine⟨AV.le_refl _,?_⟩|refine⟨ABlk.le_refl _,?_⟩|fail)|fail)
 ·obtain rfl:i=l.length:=by have h:¬ (i:Int)<(l.length:Int):=h;omega
  rw [List.drop_length] at he
  have hk:k (.ret (.p (.bool true))) K:=by rw [← he] at hk;exact hk
  conv=>whnf
  exact hr _ _ rfl hk
def cRtold:AC:=fun args K k=>∃ b,args=[.p (.bool b)]∧k (.ret (intV (toldS b))) K
theorem rtold_ok:COk 109 cRtold:=by
 rintro args K k ⟨b,rfl,hk⟩
 refine frame0P g0_ok 19 rfl fun Q hr=>?_
 cases b with
 | true =>
  conv=>whnf
  exact hr _ _ rfl hk
 | false =>
  conv=>whnf
  exact hr _ _ rfl hk
def cRtwice:AC:=fun args K k=>∃ ns root i' i b,args=[treeV ns root,intV i']∧i'=((i:Nat):Int)∧RightT ns root∧i<ns.length∧twiceR ns root i=b∧k (.ret (.p (.bool b))) K
theorem rtwice_ok:COk 107 cRtwice:=by
 rintro args K k ⟨ns,root,_,i,b,rfl,rfl,rt,hi,rfl,hk⟩
 have hlen:=rt.len
 have hrl:=rt.rlt
 have hrt:=rt.rt
 refine frame0P gRm_ok 19 rfl fun Q hr=>?_
 conv=>whnf
 refine⟨⟨by omega,by omega,rfl⟩,?_⟩
 conv=>whnf
 refine two_eq (fun h4=>?_) (fun h4=>?_)
 ·have h4:(nd ns i).k=4:=h4
  obtain⟨p,p1,p2,p3,p4,p5⟩:=rt.decl hi (.inl h4)
  rw [twiceR,if_pos (.inl h4)] at hk
  obtain⟨c,hc⟩:∃ c,ofS ns (own ns root i).toNat 4 5 (nd ns i).tx=c:=⟨_,rfl⟩
  rw [hc] at hk
  conv=>whnf
  refine⟨ns,root,_,i,own ns root i,rfl,rfl,rt,hi,rfl,?_⟩
  conv=>whnf
  repeat ((refine And.intro ?_ ?_);(focus ((conv=>whnf);first|done|exact⟨⟨by omega,by omega,rfl⟩,by conv=>whnf⟩));conv=>whnf)
  refine⟨ns,root,_,(own ns root i).toNat,4,5,_,c,rfl,by omega,rt,by omega,hc,?_⟩
  conv=>whnf
  exact hr _ _ rfl hk
 have h4:(nd ns i).k≠4:=h4
 conv=>whnf
 refine two_eq (fun h5=>?_) (fun h5=>?_)
 ·have h5:(nd ns i).k=5:=h5
  obtain⟨p,p1,p2,p3,p4,p5⟩:=rt.decl hi (.inr h5)
  rw [twiceR,if_pos (.inr h5)] at hk
  obtain⟨c,hc⟩:∃ c,ofS ns (own ns root i).toNat 4 5 (nd ns i).tx=c:=⟨_,rfl⟩
  rw [hc] at hk
  conv=>whnf
  refine⟨ns,root,_,i,own ns root i,rfl,rfl,rt,hi,rfl,?_⟩
  conv=>whnf
  repeat ((refine And.intro ?_ ?_);(focus ((conv=>whnf);first|done|exact⟨⟨by omega,by omega,rfl⟩,by conv=>whnf⟩));conv=>whnf)
  refine⟨ns,root,_,(own ns root i).toNat,4,5,_,c,rfl,by omega,rt,by omega,hc,?_⟩
  conv=>whnf
  exact hr _ _ rfl hk
 have h5:(nd ns i).k≠5:=h5
 rw [twiceR,if_neg (by omega)] at hk
 obtain⟨c,hc⟩:∃ c,ofS ns root.toNat 2 3 (nd ns i).tx=c:=⟨_,rfl⟩
 rw [hc] at hk
 conv=>whnf
 refine⟨ns,root,_,root.toNat,2,3,_,c,rfl,by omega,rt,hrl,hc,?_⟩
 conv=>whnf
 exact hr _ _ rfl hk
def gRn:AG:=gput 56 cRmeans (gput 114 cRkind (gput 153 cRall7 g0))
theorem gRn_ok:GOk Tryz.prog gRn:=gput_ok rmeans_ok (gput_ok rkind_ok (gput_ok rall7_ok g0_ok))
def cRnamed:AC:=fun args K k=>∃ ns root i' i want kids fits v,args=[treeV ns root,intV i',intV want,intV kids]∧i'=((i:Nat):Int)∧RightT ns root∧i<ns.length∧((kids=0∧fits=true)∨(kids≠0∧allS ns root (nd ns i).kids kids=fits))∧namedR ns root i want fits=v∧k (.ret (intV v)) K
theorem rnamed_ok:COk 108 cRnamed:=by
 rintro args K k ⟨ns,root,_,i,want,kids,fits,v,rfl,rfl,rt,hi,hf,rfl,hk⟩
 have hlen:=rt.len
 have hmany:=rt.many i hi
 have hin:=rt.inr hi
 refine frame0P gRn_ok 19 rfl fun Q hr=>?_
 obtain⟨d,hd⟩:∃ d,meansS ns root i (nd ns i).tx=d:=⟨_,rfl⟩
 obtain⟨kd,hkd⟩:∃ kd,kindS ns root i (nd ns i).tx=kd:=⟨_,rfl⟩
 rw [namedR,hd,hkd] at hk
 conv=>whnf
 refine⟨⟨by omega,by omega,rfl⟩,?_⟩
 conv=>whnf
 refine⟨ns,root,_,i,_,d,rfl,rfl,rt,hi,hd,?_⟩
 conv=>whnf
 refine two_dec (fun h=>?_) (fun h=>?_)
 ·have h:d<0:=h
  rw [if_pos h] at hk
  conv=>whnf
  exact hr _ _ rfl hk
 have h:¬ d<0:=h
 rw [if_neg h] at hk
 rcases hf with ⟨rfl,rfl⟩|⟨h0,hf⟩
 ·conv=>whnf
  refine two_ne (fun h2=>?_) (fun h2=>?_)
  ·have h2:want≠0:=h2
   conv=>whnf
   refine⟨ns,root,_,i,_,kd,rfl,rfl,rt,hi,hkd,?_⟩
   conv=>whnf
   refine two_ne (fun h3=>?_) (fun h3=>?_)
   ·have h3:kd≠want:=h3
    rw [if_pos (.inl ⟨h2,h3⟩)] at hk
    conv=>whnf
    exact hr _ _ rfl hk
   ·have h3:kd=want:=h3
    rw [if_neg (by rintro (⟨_,e⟩|e);exact e h3;cases e)] at hk
    conv=>whnf
    exact hr _ _ rfl hk
  ·have h2:want=0:=h2
   rw [if_neg (by rintro (⟨e,_⟩|e);exact e h2;cases e)] at hk
   conv=>whnf
   exact hr _ _ rfl hk
 ·conv=>whnf
  refine two_eq (fun h1=>absurd h1 h0) (fun _=>?_)
  conv=>whnf
  refine⟨ns,root,kids,(nd ns i).kids,_,_,fits,rfl,rfl,fun _ _=>rfl,rt,by omega,hin,hf,?_⟩
  conv=>whnf
  refine two_ne (fun h2=>?_) (fun h2=>?_)
  ·have h2:want≠0:=h2
   conv=>whnf
   refine⟨ns,root,_,i,_,kd,rfl,rfl,rt,hi,hkd,?_⟩
   conv=>whnf
   refine two_ne (fun h3=>?_) (fun h3=>?_)
   ·have h3:kd≠want:=h3
    rw [if_pos (.inl ⟨h2,h3⟩)] at hk
    conv=>whnf
    exact hr _ _ rfl hk
   ·have h3:kd=want:=h3
    cases fits with
    | true =>
     rw [if_neg (by rintro (⟨_,e⟩|e);exact e h3;cases e)] at hk
     conv=>whnf
     exact hr _ _ rfl hk
    | false =>
     rw [if_pos (.inr rfl)] at hk
     conv=>whnf
     exact hr _ _ rfl hk
  ·have h2:want=0:=h2
   cases fits with
   | true =>
    rw [if_neg (by rintro (⟨e,_⟩|e);exact e h2;cases e)] at hk
    conv=>whnf
    exact hr _ _ rfl hk
   | false =>
    rw [if_pos (.inr rfl)] at hk
    conv=>whnf
    exact hr _ _ rfl hk
def gRo:AG:=gput 60 cRtyped (gput 63 cRamongL (gput 153 cRall7 g0))
theorem gRo_ok:GOk Tryz.prog gRo:=gput_ok rtyped_ok (gput_ok ramongL_ok (gput_ok rall7_ok g0_ok))
def cRoper:AC:=fun args K k=>∃ ns root i b,args=[treeV ns root,nodeV (nd ns i)]∧RightT ns root∧i<List.length ns∧((nd ns i).k=26∨(nd ns i).k=27)∧operR ns root (nd ns i)=b∧k (.ret (.p (.bool b))) K
theorem roper_ok:COk 110 cRoper:=by
 rintro args K k ⟨ns,root,i,b,rfl,rt,hi,hk2,rfl,hk⟩
 have hlen:=rt.len
 have hmany:=rt.many i hi
 have hin:=rt.inr hi
 have two_of:((nd ns i).tx=[61,61]∨(nd ns i).tx=[33,61])→∃ q r,(nd ns i).kids=[q,r]:=fun h1=>by
  refine kids_two rt hi (.inr (.inl ?_))
  rcases hk2 with e|e
  ·have:=rt.tx i hi
   rw [e] at this
   rcases h1 with e1|e1<;>rw [e1] at this<;>exact absurd this (by decide)
  ·exact e
 have hw3:∀ (f:Nat→List AV),f 0=[.p (.str [33])]→f 1=[.p (.str [38,38])]→f 2=[.p (.str [124,124])]→∀ j,j<3→f j=pvs (strF boolW j):=fun f h0 h1 h2 j hj=>by
  match j,hj with
  | 0,_=>exact h0
  | 1,_=>exact h1
  | 2,_=>exact h2
  | n+3,h=>exact absurd h (by omega)
 refine frame0P gRo_ok 19 rfl fun Q hr=>?_
 conv=>whnf
 refine two_eq (fun h=>?_) (fun h=>?_)
 ·have h:(nd ns i).tx=[61,61]:=h
  obtain⟨q,r,hqr⟩:=two_of (.inl h)
  have hl2:((nd ns i).kids.length:Int)=2:=by rw [hqr];rfl
  have h0l:(0:Int)<((nd ns i).kids.length:Int):=by omega
  have h1l:(1:Int)<((nd ns i).kids.length:Int):=by omega
  have hq0:=hin _ (getD_mem (l:=(nd ns i).kids) (i:=0) (by omega))
  have hq1:=hin _ (getD_mem (l:=(nd ns i).kids) (i:=1) (by omega))
  rw [operR,if_pos (.inl h)] at hk
  obtain⟨a,ha⟩:∃ a,tyS ns root ((nd ns i).kids.getD 0 0).toNat=a:=⟨_,rfl⟩
  obtain⟨a1,ha1⟩:∃ a,tyS ns root ((nd ns i).kids.getD 1 0).toNat=a:=⟨_,rfl⟩
  rw [ha,ha1] at hk
  conv=>whnf
  refine⟨⟨by omega,h0l,rfl⟩,?_⟩
  conv=>whnf
  refine⟨ns,root,_,((nd ns i).kids.getD 0 0).toNat,a,rfl,(Int.toNat_of_nonneg hq0.1).symm,rt,by omega,ha,?_⟩
  conv=>whnf
  refine⟨⟨by omega,h1l,rfl⟩,?_⟩
  conv=>whnf
  refine⟨ns,root,_,((nd ns i).kids.getD 1 0).toNat,a1,rfl,(Int.toNat_of_nonneg hq1.1).symm,rt,by omega,ha1,?_⟩
  conv=>whnf
  repeat' (first|((first|refine two_eq ?_ ?_|refine two_ne ?_ ?_|refine two_not ?_ ?_|refine two_dec ?_ ?_|refine two_intro ?_ ?_)<;>intro h<;>conv=>whnf)|((first|refine Chk.mk ?_ ?_|refine And.intro ?_ ?_);(focus (((repeat' (refine And.intro ?_ ?_))<;>(first|omega|rfl|(simp only [List.length_append,List.length_cons,List.length_nil];omega)|fail));done));conv=>whnf)|(refine Exists.intro _ (And.intro rfl ?_))|(refine Exists.intro _ (Exists.intro _ (And.intro rfl ?_)))|(refine Exists.intro _ (Exists.intro _ (Exists.intro _ (And.intro rfl ?_))))|fail)
  all_goals refine hr _ _ rfl (ret_eq hk (congrArg (fun b=>AV.p (.bool b)) ?_))
  all_goals clear hr hk ha ha1 hq0 hq1 hin hw3 two_of hl2 h0l h1l
  all_goals first|(simp [*];done)|(simp [*];omega)
 have h:(nd ns i).tx≠[61,61]:=h
 conv=>whnf
 refine two_eq (fun h2=>?_) (fun h2=>?_)
 ·have h2:(nd ns i).tx=[33,61]:=h2
  obtain⟨q,r,hqr⟩:=two_of (.inr h2)
  have hl2:((nd ns i).kids.length:Int)=2:=by rw [hqr];rfl
  have h0l:(0:Int)<((nd ns i).kids.length:Int):=by omega
  have h1l:(1:Int)<((nd ns i).kids.length:Int):=by omega
  have hq0:=hin _ (getD_mem (l:=(nd ns i).kids) (i:=0) (by omega))
  have hq1:=hin _ (getD_mem (l:=(nd ns i).kids) (i:=1) (by omega))
  rw [operR,if_pos (.inr h2)] at hk
  obtain⟨a,ha⟩:∃ a,tyS ns root ((nd ns i).kids.getD 0 0).toNat=a:=⟨_,rfl⟩
  obtain⟨a1,ha1⟩:∃ a,tyS ns root ((nd ns i).kids.getD 1 0).toNat=a:=⟨_,rfl⟩
  rw [ha,ha1] at hk
  conv=>whnf
  refine⟨⟨by omega,h0l,rfl⟩,?_⟩
  conv=>whnf
  refine⟨ns,root,_,((nd ns i).kids.getD 0 0).toNat,a,rfl,(Int.toNat_of_nonneg hq0.1).symm,rt,by omega,ha,?_⟩
  conv=>whnf
  refine⟨⟨by omega,h1l,rfl⟩,?_⟩
  conv=>whnf
  refine⟨ns,root,_,((nd ns i).kids.getD 1 0).toNat,a1,rfl,(Int.toNat_of_nonneg hq1.1).symm,rt,by omega,ha1,?_⟩
  conv=>whnf
  repeat' (first|((first|refine two_eq ?_ ?_|refine two_ne ?_ ?_|refine two_not ?_ ?_|refine two_dec ?_ ?_|refine two_intro ?_ ?_)<;>intro h<;>conv=>whnf)|((first|refine Chk.mk ?_ ?_|refine And.intro ?_ ?_);(focus (((repeat' (refine And.intro ?_ ?_))<;>(first|omega|rfl|(simp only [List.length_append,List.length_cons,List.length_nil];omega)|fail));done));conv=>whnf)|(refine Exists.intro _ (And.intro rfl ?_))|(refine Exists.intro _ (Exists.intro _ (And.intro rfl ?_)))|(refine Exists.intro _ (Exists.intro _ (Exists.intro _ (And.intro rfl ?_))))|fail)
  all_goals refine hr _ _ rfl (ret_eq hk (congrArg (fun b=>AV.p (.bool b)) ?_))
  all_goals clear hr hk ha ha1 hq0 hq1 hin hw3 two_of hl2 h0l h1l
  all_goals first|(simp [*];done)|(simp [*];omega)
 have h2:(nd ns i).tx≠[33,61]:=h2
 rw [operR,if_neg (by rintro (e|e);exact h e;exact h2 e)] at hk
 conv=>whnf
 refine⟨boolW,_,3,_,_,_,_,rfl,rfl,rfl,hw3 _ rfl rfl rfl,by decide,bool_any _,?_⟩
 conv=>whnf
 refine two_dec (fun h3=>?_) (fun h3=>?_)
 ·rw [if_pos h3] at hk
  conv=>whnf
  refine⟨ns,root,2,(nd ns i).kids,_,_,_,rfl,rfl,fun _ _=>rfl,rt,by omega,hin,rfl,?_⟩
  conv=>whnf
  exact hr _ _ rfl hk
 ·rw [if_neg h3] at hk
  conv=>whnf
  refine⟨ns,root,1,(nd ns i).kids,_,_,_,rfl,rfl,fun _ _=>rfl,rt,by omega,hin,rfl,?_⟩
  conv=>whnf
  exact hr _ _ rfl hk
def gRc7:AG:=gput 56 cRmeans (gput 51 cRof (gput 52 cRparams (gput 114 cRkind (gput 60 cRtyped g0))))
theorem gRc7_ok:GOk Tryz.prog gRc7:=gput_ok rmeans_ok (gput_ok rof_ok (gput_ok rparams_ok (gput_ok rkind_ok (gput_ok rtyped_ok g0_ok))))
theorem fit_drop {ns:List Nd} {root:Int} {l w:List Int} {j:Nat} (hj:j<w.length) (hl:l.length=w.length):fitS ns root (l.drop j) (w.drop j)=(tyS ns root (l.getD j 0).toNat==w.getD j 0&&fitS ns root (l.drop (j+1)) (w.drop (j+1))):=by
 rw [List.drop_eq_getElem_cons (by omega:j<l.length),List.drop_eq_getElem_cons hj]
 simp only [fitS]
 congr 2
 ·simp [show j<l.length by omega]
 ·simp [hj]
def cRcall:AC:=fun args K k=>∃ ns root i' i v,args=[treeV ns root,intV i']∧i'=((i:Nat):Int)∧RightT ns root∧i<ns.length∧(nd ns i).k=13∧tcallS ns root i (nd ns i)=v∧k (.ret (intV v)) K
theorem rcall_ok:COk 111 cRcall:=by
 rintro args K k ⟨ns,root,_,i,v,rfl,rfl,rt,hi,hk13,rfl,hk⟩
 have hlen:=rt.len
 have hmany:=rt.many i hi
 have hin:=rt.inr hi
 have hrl:=rt.rlt
 have hrt:=rt.rt
 obtain⟨q0,r,hkd⟩:=kids_cons rt hi (.inr (.inr (.inr (.inr hk13))))
 have h0l:(0:Int)<((nd ns i).kids.length:Int):=by rw [hkd];simp only [List.length_cons];omega
 have hq0:=hin _ (getD_mem (l:=(nd ns i).kids) (i:=0) (by omega))
 obtain⟨d,hd⟩:∃ d,meansS ns root i (nd ns ((nd ns i).kids.getD 0 0).toNat).tx=d:=⟨_,rfl⟩
 obtain⟨p,hp⟩:∃ p,procI ns (nd ns ((nd ns i).kids.getD 0 0).toNat).tx=p:=⟨_,rfl⟩
 have hdr:=means_range ns root i (nd ns ((nd ns i).kids.getD 0 0).toNat).tx
 have hpr:=procI_range ns (nd ns ((nd ns i).kids.getD 0 0).toNat).tx
 rw [hd] at hdr
 rw [hp] at hpr
 obtain⟨e,he⟩:∃ e,meansS ns root i (nd ns i).tx=e:=⟨_,rfl⟩
 have her:=means_range ns root i (nd ns i).tx
 rw [he] at her
 obtain⟨kd,hkd2⟩:∃ kd,kindS ns root i (nd ns i).tx=kd:=⟨_,rfl⟩
 unfold tcallS at hk
 simp only [hd,hp,he,hkd2] at hk
 refine frame0P gRc7_ok 19 rfl fun Q hr=>?_
 conv=>whnf
 refine⟨⟨by omega,by omega,rfl⟩,?_⟩
 conv=>whnf
 refine⟨⟨by omega,h0l,rfl⟩,?_⟩
 conv=>whnf
 refine⟨⟨hq0.1,hq0.2,rfl⟩,?_⟩
 conv=>whnf
 refine⟨ns,root,_,i,_,d,rfl,rfl,rt,hi,hd,?_⟩
 conv=>whnf
 repeat ((refine And.intro ?_ ?_);(focus ((conv=>whnf);first|done|exact⟨⟨by omega,by omega,rfl⟩,by conv=>whnf⟩));conv=>whnf)
 refine⟨ns,root,_,root.toNat,3,3,_,p,rfl,by omega,rt,hrl,(of_proc rt _).trans hp,?_⟩
 conv=>whnf
 repeat ((refine And.intro ?_ ?_);(focus ((conv=>whnf);first|done|exact⟨⟨by omega,by omega,rfl⟩,by conv=>whnf⟩));conv=>whnf)
 refine two_dec (fun hd1=>?_) (fun hd1=>?_)
 ·have hd1:d=-1:=by have hd1:d<0:=hd1;omega
  conv=>whnf
  refine two_dec (fun hp1=>?_) (fun hp1=>?_)
  ·have hp1:p=-1:=by have hp1:p<0:=hp1;omega
   rw [if_pos (.inl ⟨hd1,hp1⟩)] at hk
   conv=>whnf
   exact hr _ _ rfl hk
  have hp1:¬ p<0:=hp1
  have hpr:=hpr.resolve_left (by omega)
  conv=>whnf
  refine two_ne (fun h3=>?_) (fun h3=>?_)
  have h3:(nd ns i).tx≠[]:=h3
  conv=>whnf
  refine⟨ns,root,_,i,_,e,rfl,rfl,rt,hi,he,?_⟩
  conv=>whnf
  refine two_dec (fun h4=>?_) (fun h4=>?_)
  ·have h4:e=-1:=by have h4:e<0:=h4;omega
   rw [if_pos (.inr ⟨h3,h4⟩)] at hk
   conv=>whnf
   exact hr _ _ rfl hk
  have h4:¬ e<0:=h4
  rotate_left
  have h3:(nd ns i).tx=[]:=h3
  all_goals
   rw [if_neg (by rintro (⟨_,e1⟩|⟨e1,e2⟩)<;>first|omega|exact e1 h3),if_pos hd1] at hk
   obtain⟨ps,hps⟩:∃ ps,paramsS ns p.toNat=ps:=⟨_,rfl⟩
   have hpl:=params_le ns p.toNat
   have hpm:=rt.many p.toNat (by omega)
   rw [hps] at hpl hk
   have hd1':d<0:=by omega
   conv=>whnf
   refine two_dec (fun _=>?_) (fun h=>absurd hd1' h)
   conv=>whnf
   refine⟨ns,root,_,p.toNat,ps,rfl,by omega,rt,by omega,hps,?_⟩
   conv=>whnf
   refine⟨⟨by omega,by omega,rfl⟩,?_⟩
   have hlb:List.length ps<100000:=by omega
   conv=>whnf
   refine two_ne (fun h7=>?_) (fun h7=>?_)
   ·have h7:((nd ns i).kids.length:Int)≠IntKind.i64.wrap ((List.length ps:Int)+1):=h7
    have hf:fitS ns root (nd ns i).kids.tail ps=false:=by
     rw [← Bool.not_eq_true];intro e;have:=fit_len _ _ e;rw [List.length_tail] at this;exact h7 (by rw [wzz (by omega)];omega)
    rw [hf] at hk
    conv=>whnf
    exact hr _ _ rfl hk
   have h7:(nd ns i).kids.length=List.length ps+1:=by
    have h7:((nd ns i).kids.length:Int)=IntKind.i64.wrap ((List.length ps:Int)+1):=h7
    rw [wzz (by omega)] at h7;omega
   have htl:(nd ns i).kids.tail.length=List.length ps:=by rw [List.length_tail];omega
   conv=>whnf
   refine two_ne (fun h8=>?_) (fun h8=>?_)
   have h8:(nd ns i).tx≠[]:=h8
   rw [beq_eq_false_iff_ne.2 h8,Bool.false_or] at hk
   conv=>whnf
   refine two_eq (fun h11=>?_) (fun h11=>?_)
   ·have h11:(nd ns p.toNat).n=(0:Int):=h11
    rw [h11,show ((0:Int) != 0)=false from rfl,Bool.false_and,Bool.and_false] at hk
    conv=>whnf
    exact hr _ _ rfl hk
   have h11:(nd ns p.toNat).n≠(0:Int):=h11
   rw [bne_iff_ne.2 h11,Bool.true_and] at hk
   conv=>whnf
   refine⟨ns,root,_,i,_,kd,rfl,rfl,rt,hi,hkd2,?_⟩
   conv=>whnf
   refine two_ne (fun h12=>?_) (fun h12=>?_)
   ·have h12:kd≠(nd ns p.toNat).n:=h12
    rw [beq_eq_false_iff_ne.2 h12,Bool.and_false] at hk
    conv=>whnf
    exact hr _ _ rfl hk
   have h12:kd=(nd ns p.toNat).n:=h12
   rw [beq_iff_eq.2 h12,Bool.and_true] at hk
   rotate_left
   have h8:(nd ns i).tx=[]:=h8
   rw [beq_iff_eq.2 h8,Bool.true_or,Bool.and_true] at hk
   all_goals
    conv=>whnf
    refine loop_up (ι:=Nat) [2,5,9] (fun j=>[(11,intV j)]) (fun _=>[]) (fun j=>j≤List.length ps∧fitS ns root ((nd ns i).kids.tail.drop j) (List.drop j ps)=fitS ns root (nd ns i).kids.tail ps) (fun j=>List.length ps - j) 0 ⟨AV.le_refl _,trivial⟩ (trivial) ⟨Nat.zero_le _,by simp⟩ ?_
    rintro Y hle j ⟨hj,hfe⟩ ih
    conv=>whnf
    refine two_dec (fun h9=>?_) (fun h9=>?_)
    ·have h9:j<List.length ps:=by have h9:(j:Int)<(List.length ps:Int):=h9;omega
     have h9':(j:Int)<(List.length ps:Int):=by omega
     skip
     have hw1:=wzz (i:=j) (by omega)
     have hw1':IntKind.i64.wrap ((j:Int)+1)=((j+1:Nat):Int):=hw1
     have hj1:j+1<(nd ns i).kids.length:=by omega
     have hx0:0≤IntKind.i64.wrap ((j:Int)+1):=by rw [hw1];omega
     have hx1:IntKind.i64.wrap ((j:Int)+1)<((nd ns i).kids.length:Int):=by rw [hw1];omega
     have hqj:=hin _ (getD_mem hj1)
     rw [fit_drop h9 htl] at hfe
     have etl:(nd ns i).kids.tail.getD j 0=(nd ns i).kids.getD (j+1) 0:=by cases (nd ns i).kids<;>rfl
     rw [etl] at hfe
     obtain⟨ty,hty⟩:∃ ty,tyS ns root ((nd ns i).kids.getD (j+1) 0).toNat=ty:=⟨_,rfl⟩
     rw [hty] at hfe
     have hqe:(nd ns i).kids.getD (IntKind.i64.wrap ((j:Int)+1)).toNat 0=((((nd ns i).kids.getD (j+1) 0).toNat:Nat):Int):=by rw [hw1,Int.toNat_natCast];omega
     conv=>whnf
     refine⟨⟨hx0,hx1,rfl⟩,?_⟩
     conv=>whnf
     (refine⟨⟨by omega,h9',rfl⟩,?_⟩;conv=>whnf)
     refine⟨ns,root,_,((nd ns i).kids.getD (j+1) 0).toNat,ty,rfl,hqe,rt,by omega,hty,?_⟩
     conv=>whnf
     repeat ((refine And.intro ?_ ?_);(focus ((conv=>whnf);first|done|exact⟨⟨by omega,h9',rfl⟩,by conv=>whnf⟩|exact⟨⟨hx0,hx1,rfl⟩,by conv=>whnf⟩|exact⟨⟨rfl,rfl,by omega,h9',rfl⟩,by conv=>whnf⟩|exact⟨⟨rfl,rfl⟩,by conv=>whnf⟩));conv=>whnf)
     refine two_ne (fun h10=>?_) (fun h10=>?_)
     ·have h10:ty≠List.getD ps j 0:=(fun h=>h) h10
      rw [beq_eq_false_iff_ne.2 h10,Bool.false_and] at hfe
      rw [← hfe] at hk
      conv=>whnf
      exact hr _ _ rfl hk
     ·have h10:ty=List.getD ps j 0:=(fun h=>h) h10
      rw [beq_iff_eq.2 h10,Bool.true_and] at hfe
      conv=>whnf
      refine hle _ _ (Le.env ?_ ?_) (ih (j+1) (by omega) ⟨by omega,hfe⟩)
      ·skip
       repeat' (first|exact trivial|((conv=>whnf);first|exact trivial|refine⟨AV.le_refl _,?_⟩|refine⟨ABlk.le_refl _,?_⟩|(refine⟨AV.le_of_eq ?_,?_⟩;focus ((first|exact congrArg intV hw1|fail);done))|(refine⟨ABlk.le_of_eq ?_,?_⟩;focus ((first|exact congrArg intV hw1|fail);done))|fail)|fail)
      ·skip
       repeat' (first|exact trivial|((conv=>whnf);first|exact trivial|refine⟨AV.le_refl _,?_⟩|refine⟨ABlk.le_refl _,?_⟩|fail)|fail)
    ·obtain rfl:j=List.length ps:=by have h9:¬ (j:Int)<(List.length ps:Int):=h9;omega
     rw [List.drop_of_length_le (by omega),List.drop_of_length_le (Nat.le_refl _)] at hfe
     have hfe:true=fitS ns root (nd ns i).kids.tail ps:=hfe
     rw [← hfe] at hk
     conv=>whnf
     exact hr _ _ rfl hk
 ·have hd1:¬ d<0:=hd1
  have hdr:=hdr.resolve_left (by omega)
  conv=>whnf
  refine two_ne (fun h3=>?_) (fun h3=>?_)
  have h3:(nd ns i).tx≠[]:=h3
  conv=>whnf
  refine⟨ns,root,_,i,_,e,rfl,rfl,rt,hi,he,?_⟩
  conv=>whnf
  refine two_dec (fun h4=>?_) (fun h4=>?_)
  ·have h4:e=-1:=by have h4:e<0:=h4;omega
   rw [if_pos (.inr ⟨h3,h4⟩)] at hk
   conv=>whnf
   exact hr _ _ rfl hk
  have h4:¬ e<0:=h4
  rotate_left
  have h3:(nd ns i).tx=[]:=h3
  all_goals
   rw [if_neg (by rintro (⟨e1,_⟩|⟨e1,e2⟩)<;>first|omega|exact e1 h3),if_neg (by omega:¬ d=-1)] at hk
   conv=>whnf
   refine two_dec (fun h=>absurd h hd1) (fun _=>?_)
   conv=>whnf
   refine⟨⟨by omega,by omega,rfl⟩,?_⟩
   conv=>whnf
   refine two_ne (fun h5=>?_) (fun h5=>?_)
   ·have h5:(nd ns d.toNat).n≠4:=h5
    rw [if_pos h5] at hk
    conv=>whnf
    exact hr _ _ rfl hk
   have h5:(nd ns d.toNat).n=4:=h5
   rw [if_neg (fun e=>e h5)] at hk
   have hk:k (.ret (intV (toldS (fitS ns root (nd ns i).kids.tail [1]&&((nd ns i).tx==[] || ((1:Int) != 0&&kd==1)))))) K:=hk
   have hlb:List.length ([1]:List Int)<100000:=by decide
   conv=>whnf
   refine two_ne (fun h7=>?_) (fun h7=>?_)
   ·have h7:((nd ns i).kids.length:Int)≠IntKind.i64.wrap ((List.length ([1]:List Int):Int)+1):=h7
    have hf:fitS ns root (nd ns i).kids.tail ([1]:List Int)=false:=by
     rw [← Bool.not_eq_true];intro e;have:=fit_len _ _ e;rw [List.length_tail] at this;exact h7 (by rw [wzz (by omega)];omega)
    rw [hf] at hk
    conv=>whnf
    exact hr _ _ rfl hk
   have h7:(nd ns i).kids.length=List.length ([1]:List Int)+1:=by
    have h7:((nd ns i).kids.length:Int)=IntKind.i64.wrap ((List.length ([1]:List Int):Int)+1):=h7
    rw [wzz (by omega)] at h7;omega
   have htl:(nd ns i).kids.tail.length=List.length ([1]:List Int):=by rw [List.length_tail];omega
   conv=>whnf
   refine two_ne (fun h8=>?_) (fun h8=>?_)
   have h8:(nd ns i).tx≠[]:=h8
   rw [beq_eq_false_iff_ne.2 h8,Bool.false_or] at hk
   rw [show ((1:Int) != 0)=true from rfl,Bool.true_and] at hk
   conv=>whnf
   refine⟨ns,root,_,i,_,kd,rfl,rfl,rt,hi,hkd2,?_⟩
   conv=>whnf
   refine two_ne (fun h12=>?_) (fun h12=>?_)
   ·have h12:kd≠(1:Int):=h12
    rw [beq_eq_false_iff_ne.2 h12,Bool.and_false] at hk
    conv=>whnf
    exact hr _ _ rfl hk
   have h12:kd=(1:Int):=h12
   rw [beq_iff_eq.2 h12,Bool.and_true] at hk
   rotate_left
   have h8:(nd ns i).tx=[]:=h8
   rw [beq_iff_eq.2 h8,Bool.true_or,Bool.and_true] at hk
   all_goals
    conv=>whnf
    refine loop_up (ι:=Nat) [2,5,9] (fun j=>[(11,intV j)]) (fun _=>[(2,.arr 3 1 0 1 fun _=>[intV 1])]) (fun j=>j≤List.length ([1]:List Int)∧fitS ns root ((nd ns i).kids.tail.drop j) (List.drop j ([1]:List Int))=fitS ns root (nd ns i).kids.tail ([1]:List Int)) (fun j=>List.length ([1]:List Int) - j) 0 ⟨AV.le_refl _,trivial⟩ (⟨upLe1 rfl (ABlk.arr_eq rfl fun i hi=>by obtain rfl:i=0:=(by omega);rfl),trivial⟩) ⟨Nat.zero_le _,by simp⟩ ?_
    rintro Y hle j ⟨hj,hfe⟩ ih
    conv=>whnf
    refine two_dec (fun h9=>?_) (fun h9=>?_)
    ·have h9:j<List.length ([1]:List Int):=by have h9:(j:Int)<(List.length ([1]:List Int):Int):=h9;omega
     have h9':(j:Int)<(List.length ([1]:List Int):Int):=by omega
     have eg:List.getD ([1]:List Int) j 0=1:=by (obtain rfl:j=0:=by (have h9:j<1:=h9;omega));rfl
     have hw1:=wzz (i:=j) (by omega)
     have hw1':IntKind.i64.wrap ((j:Int)+1)=((j+1:Nat):Int):=hw1
     have hj1:j+1<(nd ns i).kids.length:=by omega
     have hx0:0≤IntKind.i64.wrap ((j:Int)+1):=by rw [hw1];omega
     have hx1:IntKind.i64.wrap ((j:Int)+1)<((nd ns i).kids.length:Int):=by rw [hw1];omega
     have hqj:=hin _ (getD_mem hj1)
     rw [fit_drop h9 htl] at hfe
     have etl:(nd ns i).kids.tail.getD j 0=(nd ns i).kids.getD (j+1) 0:=by cases (nd ns i).kids<;>rfl
     rw [etl] at hfe
     obtain⟨ty,hty⟩:∃ ty,tyS ns root ((nd ns i).kids.getD (j+1) 0).toNat=ty:=⟨_,rfl⟩
     rw [hty] at hfe
     have hqe:(nd ns i).kids.getD (IntKind.i64.wrap ((j:Int)+1)).toNat 0=((((nd ns i).kids.getD (j+1) 0).toNat:Nat):Int):=by rw [hw1,Int.toNat_natCast];omega
     conv=>whnf
     refine⟨⟨hx0,hx1,rfl⟩,?_⟩
     conv=>whnf
     (refine⟨⟨rfl,rfl,by omega,h9',rfl⟩,?_⟩;(conv=>whnf);refine⟨⟨rfl,rfl⟩,?_⟩;conv=>whnf)
     refine⟨ns,root,_,((nd ns i).kids.getD (j+1) 0).toNat,ty,rfl,hqe,rt,by omega,hty,?_⟩
     conv=>whnf
     repeat ((refine And.intro ?_ ?_);(focus ((conv=>whnf);first|done|exact⟨⟨by omega,h9',rfl⟩,by conv=>whnf⟩|exact⟨⟨hx0,hx1,rfl⟩,by conv=>whnf⟩|exact⟨⟨rfl,rfl,by omega,h9',rfl⟩,by conv=>whnf⟩|exact⟨⟨rfl,rfl⟩,by conv=>whnf⟩));conv=>whnf)
     refine two_ne (fun h10=>?_) (fun h10=>?_)
     ·have h10:ty≠List.getD ([1]:List Int) j 0:=(fun h=>by rw [eg];exact h) h10
      rw [beq_eq_false_iff_ne.2 h10,Bool.false_and] at hfe
      rw [← hfe] at hk
      conv=>whnf
      exact hr _ _ rfl hk
     ·have h10:ty=List.getD ([1]:List Int) j 0:=(fun h=>by rw [eg];exact h) h10
      rw [beq_iff_eq.2 h10,Bool.true_and] at hfe
      conv=>whnf
      refine hle _ _ (Le.env ?_ ?_) (ih (j+1) (by omega) ⟨by omega,hfe⟩)
      ·skip
       repeat' (first|exact trivial|((conv=>whnf);first|exact trivial|refine⟨AV.le_refl _,?_⟩|refine⟨ABlk.le_refl _,?_⟩|(refine⟨AV.le_of_eq ?_,?_⟩;focus ((first|exact congrArg intV hw1|fail);done))|(refine⟨ABlk.le_of_eq ?_,?_⟩;focus ((first|exact congrArg intV hw1|fail);done))|fail)|fail)
      ·skip
       repeat' (first|exact trivial|((conv=>whnf);first|exact trivial|refine⟨AV.le_refl _,?_⟩|refine⟨ABlk.le_refl _,?_⟩|fail)|fail)
    ·obtain rfl:j=List.length ([1]:List Int):=by have h9:¬ (j:Int)<(List.length ([1]:List Int):Int):=h9;omega
     rw [List.drop_of_length_le (by omega),List.drop_of_length_le (Nat.le_refl _)] at hfe
     have hfe:true=fitS ns root (nd ns i).kids.tail ([1]:List Int):=hfe
     rw [← hfe] at hk
     conv=>whnf
     exact hr _ _ rfl hk
end Go.Proofs.YtojjkleplnijaaaGreatDoor
namespace Go.Ru
section
variable {ns:List Nd} {root:Int} {i:Nat}
theorem wr2 (h:(nd ns i).k=2):wrongR ns root i=if twiceR ns root i then 4 else 0:=by simp [wrongR,h]
theorem wr3 (h:(nd ns i).k=3):wrongR ns root i=if twiceR ns root i then 4 else 0:=by simp [wrongR,h]
theorem wr4 (h:(nd ns i).k=4):wrongR ns root i=if twiceR ns root i then 4 else 0:=by simp [wrongR,h]
theorem wr5 (h:(nd ns i).k=5):wrongR ns root i=if twiceR ns root i then 4 else 0:=by simp [wrongR,h]
theorem wr22 (h:(nd ns i).k=22):wrongR ns root i=namedR ns root i 0 true:=by simp [wrongR,h]
theorem wr23 (h:(nd ns i).k=23):wrongR ns root i=namedR ns root i 3 (allS ns root (nd ns i).kids 1):=by simp [wrongR,h]
theorem wr8 (h:(nd ns i).k=8):wrongR ns root i=namedR ns root i 3 (allS ns root (nd ns i).kids 1):=by simp [wrongR,h]
theorem wr17 (h:(nd ns i).k=17):wrongR ns root i=namedR ns root i 3 (allS ns root (nd ns i).kids 1):=by simp [wrongR,h]
theorem wr24 (h:(nd ns i).k=24):wrongR ns root i=namedR ns root i 3 true:=by simp [wrongR,h]
theorem wr9 (h:(nd ns i).k=9):wrongR ns root i=namedR ns root i 1 true:=by simp [wrongR,h]
theorem wr16 (h:(nd ns i).k=16):wrongR ns root i=namedR ns root i 1 true:=by simp [wrongR,h]
theorem wr25 (h:(nd ns i).k=25):wrongR ns root i=if procI ns (nd ns i).tx<0 then 3 else toldS (tplainS ns (procI ns (nd ns i).tx).toNat):=by simp [wrongR,h]
theorem wr26 (h:(nd ns i).k=26):wrongR ns root i=toldS (operR ns root (nd ns i)):=by simp [wrongR,h]
theorem wr27 (h:(nd ns i).k=27):wrongR ns root i=toldS (operR ns root (nd ns i)):=by simp [wrongR,h]
theorem wr7 (h:(nd ns i).k=7):wrongR ns root i=namedR ns root i (tyS ns root ((nd ns i).kids.getD 0 0).toNat) true:=by simp [wrongR,h]
theorem wr10 (h:(nd ns i).k=10):wrongR ns root i=toldS (tyS ns root ((nd ns i).kids.getD 1 0).toNat==1):=by simp [wrongR,h]
theorem wr15 (h:(nd ns i).k=15):wrongR ns root i=toldS (tyS ns root ((nd ns i).kids.getD 0 0).toNat==1):=by simp [wrongR,h]
theorem wr11 (h:(nd ns i).k=11):wrongR ns root i=toldS (tyS ns root ((nd ns i).kids.getD 0 0).toNat==2):=by simp [wrongR,h]
theorem wr12 (h:(nd ns i).k=12):wrongR ns root i=toldS (tyS ns root ((nd ns i).kids.getD 0 0).toNat==2):=by simp [wrongR,h]
theorem wr13 (h:(nd ns i).k=13):wrongR ns root i=tcallS ns root i (nd ns i):=by simp [wrongR,h]
theorem wr14 (h:(nd ns i).k=14):wrongR ns root i=toldS (retR ns root (nd ns i) (nd ns (own ns root i).toNat).n):=by simp [wrongR,h]
theorem wrD (h2:(nd ns i).k≠2) (h3:(nd ns i).k≠3) (h4:(nd ns i).k≠4) (h5:(nd ns i).k≠5) (h22:(nd ns i).k≠22) (h23:(nd ns i).k≠23) (h8:(nd ns i).k≠8) (h17:(nd ns i).k≠17) (h24:(nd ns i).k≠24) (h9:(nd ns i).k≠9) (h16:(nd ns i).k≠16) (h25:(nd ns i).k≠25) (h26:(nd ns i).k≠26) (h27:(nd ns i).k≠27) (h7:(nd ns i).k≠7) (h10:(nd ns i).k≠10) (h15:(nd ns i).k≠15) (h11:(nd ns i).k≠11) (h12:(nd ns i).k≠12) (h13:(nd ns i).k≠13) (h14:(nd ns i).k≠14):wrongR ns root i=0:=by simp [wrongR,h2,h3,h4,h5,h22,h23,h8,h17,h24,h9,h16,h25,h26,h27,h7,h10,h15,h11,h12,h13,h14]
end
end Go.Ru
namespace Go.Proofs.YtojjkleplnijaaaGreatDoor
open Go.AE Go.Ru
set_option maxRecDepth 100000
set_option maxHeartbeats 1000000
def gRw7:AG:=gput 107 cRtwice (gput 108 cRnamed (gput 51 cRof (gput 58 cRplain (gput 109 cRtold (gput 110 cRoper (gput 60 cRtyped (gput 111 cRcall (gput 54 cRown g0))))))))
theorem gRw7_ok:GOk Tryz.prog gRw7:=gput_ok rtwice_ok (gput_ok rnamed_ok (gput_ok rof_ok (gput_ok rplain_ok (gput_ok rtold_ok (gput_ok roper_ok (gput_ok rtyped_ok (gput_ok rcall_ok (gput_ok rown_ok g0_ok))))))))
def cRwrong:AC:=fun args K k=>∃ ns root i' i v,args=[treeV ns root,intV i']∧i'=((i:Nat):Int)∧RightT ns root∧i<ns.length∧wrongR ns root i=v∧k (.ret (intV v)) K
theorem rwrong_ok:COk 50 cRwrong:=by
 rintro args K k ⟨ns,root,_,i,v,rfl,rfl,rt,hi,rfl,hk⟩
 have hlen:=rt.len
 have hmany:=rt.many i hi
 have hin:=rt.inr hi
 have hrl:=rt.rlt
 have hrt:=rt.rt
 have hrn:root=(root.toNat:Int):=by omega
 have len2:((nd ns i).k=10∨(nd ns i).k=12)→(1:Int)<((nd ns i).kids.length:Int):=fun h=>by
  obtain⟨q,r,e⟩:=kids_two rt hi (by omega);rw [e];exact (by decide:(1:Int)<2)
 have len1:((nd ns i).k=7∨(nd ns i).k=15∨(nd ns i).k=11∨(nd ns i).k=12)→(0:Int)<((nd ns i).kids.length:Int):=fun h=>by
  rcases h with h|h|h|h
  ·obtain⟨q,e,_⟩:=kids_one rt hi (.inl h);rw [e];exact (by decide:(0:Int)<1)
  ·obtain⟨q,e,_⟩:=kids_one rt hi (.inr (.inr (.inl h)));rw [e];exact (by decide:(0:Int)<1)
  ·obtain⟨q,r,s,e⟩:=kids_if rt hi h;rw [e];exact (by decide:(0:Int)<3)
  ·have:=len2 (.inr h);omega
 obtain⟨b,hb⟩:∃ b,twiceR ns root i=b:=⟨_,rfl⟩
 obtain⟨bo,hbo⟩:∃ b,operR ns root (nd ns i)=b:=⟨_,rfl⟩
 obtain⟨p,hp⟩:∃ p,procI ns (nd ns i).tx=p:=⟨_,rfl⟩
 obtain⟨o,ho⟩:∃ o,own ns root i=o:=⟨_,rfl⟩
 obtain⟨t0,ht0⟩:∃ t,tyS ns root ((nd ns i).kids.getD 0 0).toNat=t:=⟨_,rfl⟩
 obtain⟨t1,ht1⟩:∃ t,tyS ns root ((nd ns i).kids.getD 1 0).toNat=t:=⟨_,rfl⟩
 refine frame0P gRw7_ok 19 rfl fun Q hr=>?_
 conv=>whnf
 refine⟨⟨by omega,by omega,rfl⟩,?_⟩
 conv=>whnf
 refine two_eq (fun h=>?_) (fun h=>?_)
 ·have h:(nd ns i).k=2:=h
  clear len1 len2
  rw [wr2 h,hb] at hk
  conv=>whnf
  refine⟨ns,root,_,i,b,rfl,rfl,rt,hi,hb,?_⟩
  cases b with
  | true =>
   conv=>whnf
   exact hr _ _ rfl hk
  | false =>
   conv=>whnf
   exact hr _ _ rfl hk
 have n2:(nd ns i).k≠2:=h
 conv=>whnf
 refine two_eq (fun h=>?_) (fun h=>?_)
 ·have h:(nd ns i).k=3:=h
  clear len1 len2
  clear n2
  rw [wr3 h,hb] at hk
  conv=>whnf
  refine⟨ns,root,_,i,b,rfl,rfl,rt,hi,hb,?_⟩
  cases b with
  | true =>
   conv=>whnf
   exact hr _ _ rfl hk
  | false =>
   conv=>whnf
   exact hr _ _ rfl hk
 have n3:(nd ns i).k≠3:=h
 conv=>whnf
 refine two_eq (fun h=>?_) (fun h=>?_)
 ·have h:(nd ns i).k=4:=h
  clear len1 len2
  clear n2 n3
  rw [wr4 h,hb] at hk
  conv=>whnf
  refine⟨ns,root,_,i,b,rfl,rfl,rt,hi,hb,?_⟩
  cases b with
  | true =>
   conv=>whnf
   exact hr _ _ rfl hk
  | false =>
   conv=>whnf
   exact hr _ _ rfl hk
 have n4:(nd ns i).k≠4:=h
 conv=>whnf
 refine two_eq (fun h=>?_) (fun h=>?_)
 ·have h:(nd ns i).k=5:=h
  clear len1 len2
  clear n2 n3 n4
  rw [wr5 h,hb] at hk
  conv=>whnf
  refine⟨ns,root,_,i,b,rfl,rfl,rt,hi,hb,?_⟩
  cases b with
  | true =>
   conv=>whnf
   exact hr _ _ rfl hk
  | false =>
   conv=>whnf
   exact hr _ _ rfl hk
 have n5:(nd ns i).k≠5:=h
 conv=>whnf
 refine two_eq (fun h=>?_) (fun h=>?_)
 ·have h:(nd ns i).k=22:=h
  clear len1 len2
  clear n2 n3 n4 n5
  rw [wr22 h] at hk
  conv=>whnf
  refine⟨ns,root,_,i,0,0,true,_,rfl,rfl,rt,hi,.inl ⟨rfl,rfl⟩,rfl,?_⟩
  conv=>whnf
  exact hr _ _ rfl hk
 have n22:(nd ns i).k≠22:=h
 conv=>whnf
 refine two_eq (fun h=>?_) (fun h=>?_)
 ·have h:(nd ns i).k=23:=h
  clear len1 len2
  clear n2 n3 n4 n5 n22
  rw [wr23 h] at hk
  conv=>whnf
  refine⟨ns,root,_,i,3,1,(allS ns root (nd ns i).kids 1),_,rfl,rfl,rt,hi,.inr ⟨by decide,rfl⟩,rfl,?_⟩
  conv=>whnf
  exact hr _ _ rfl hk
 have n23:(nd ns i).k≠23:=h
 conv=>whnf
 refine two_eq (fun h=>?_) (fun h=>?_)
 ·have h:(nd ns i).k=8:=h
  clear len1 len2
  clear n2 n3 n4 n5 n22 n23
  rw [wr8 h] at hk
  conv=>whnf
  refine⟨ns,root,_,i,3,1,(allS ns root (nd ns i).kids 1),_,rfl,rfl,rt,hi,.inr ⟨by decide,rfl⟩,rfl,?_⟩
  conv=>whnf
  exact hr _ _ rfl hk
 have n8:(nd ns i).k≠8:=h
 conv=>whnf
 refine two_eq (fun h=>?_) (fun h=>?_)
 ·have h:(nd ns i).k=17:=h
  clear len1 len2
  clear n2 n3 n4 n5 n22 n23 n8
  rw [wr17 h] at hk
  conv=>whnf
  refine⟨ns,root,_,i,3,1,(allS ns root (nd ns i).kids 1),_,rfl,rfl,rt,hi,.inr ⟨by decide,rfl⟩,rfl,?_⟩
  conv=>whnf
  exact hr _ _ rfl hk
 have n17:(nd ns i).k≠17:=h
 conv=>whnf
 refine two_eq (fun h=>?_) (fun h=>?_)
 ·have h:(nd ns i).k=24:=h
  clear len1 len2
  clear n2 n3 n4 n5 n22 n23 n8 n17
  rw [wr24 h] at hk
  conv=>whnf
  refine⟨ns,root,_,i,3,0,true,_,rfl,rfl,rt,hi,.inl ⟨rfl,rfl⟩,rfl,?_⟩
  conv=>whnf
  exact hr _ _ rfl hk
 have n24:(nd ns i).k≠24:=h
 conv=>whnf
 refine two_eq (fun h=>?_) (fun h=>?_)
 ·have h:(nd ns i).k=9:=h
  clear len1 len2
  clear n2 n3 n4 n5 n22 n23 n8 n17 n24
  rw [wr9 h] at hk
  conv=>whnf
  refine⟨ns,root,_,i,1,0,true,_,rfl,rfl,rt,hi,.inl ⟨rfl,rfl⟩,rfl,?_⟩
  conv=>whnf
  exact hr _ _ rfl hk
 have n9:(nd ns i).k≠9:=h
 conv=>whnf
 refine two_eq (fun h=>?_) (fun h=>?_)
 ·have h:(nd ns i).k=16:=h
  clear len1 len2
  clear n2 n3 n4 n5 n22 n23 n8 n17 n24 n9
  rw [wr16 h] at hk
  conv=>whnf
  refine⟨ns,root,_,i,1,0,true,_,rfl,rfl,rt,hi,.inl ⟨rfl,rfl⟩,rfl,?_⟩
  conv=>whnf
  exact hr _ _ rfl hk
 have n16:(nd ns i).k≠16:=h
 conv=>whnf
 refine two_eq (fun h=>?_) (fun h=>?_)
 ·have h:(nd ns i).k=25:=h
  clear len1 len2
  clear n2 n3 n4 n5 n22 n23 n8 n17 n24 n9 n16
  have hpr:=procI_range ns (nd ns i).tx
  rw [hp] at hpr
  rw [wr25 h,hp] at hk
  conv=>whnf
  refine⟨ns,root,_,root.toNat,3,3,_,p,rfl,hrn,rt,hrl,(of_proc rt _).trans hp,?_⟩
  conv=>whnf
  refine two_dec (fun hp1=>?_) (fun hp1=>?_)
  ·have hp1:p<0:=hp1
   rw [if_pos hp1] at hk
   conv=>whnf
   exact hr _ _ rfl hk
  have hp1:¬ p<0:=hp1
  rw [if_neg hp1] at hk
  conv=>whnf
  refine⟨ns,root,_,p.toNat,_,rfl,by omega,rt,by omega,rfl,?_⟩
  conv=>whnf
  refine⟨_,rfl,?_⟩
  conv=>whnf
  exact hr _ _ rfl hk
 have n25:(nd ns i).k≠25:=h
 conv=>whnf
 refine two_eq (fun h=>?_) (fun h=>?_)
 ·have h:(nd ns i).k=26:=h
  clear len1 len2
  clear n2 n3 n4 n5 n22 n23 n8 n17 n24 n9 n16 n25
  rw [wr26 h,hbo] at hk
  conv=>whnf
  refine⟨ns,root,i,bo,rfl,rt,hi,.inl h,hbo,?_⟩
  conv=>whnf
  refine⟨bo,rfl,?_⟩
  conv=>whnf
  exact hr _ _ rfl hk
 have n26:(nd ns i).k≠26:=h
 conv=>whnf
 refine two_eq (fun h=>?_) (fun h=>?_)
 ·have h:(nd ns i).k=27:=h
  clear len1 len2
  clear n2 n3 n4 n5 n22 n23 n8 n17 n24 n9 n16 n25 n26
  rw [wr27 h,hbo] at hk
  conv=>whnf
  refine⟨ns,root,i,bo,rfl,rt,hi,.inr h,hbo,?_⟩
  conv=>whnf
  refine⟨bo,rfl,?_⟩
  conv=>whnf
  exact hr _ _ rfl hk
 have n27:(nd ns i).k≠27:=h
 conv=>whnf
 refine two_eq (fun h=>?_) (fun h=>?_)
 ·have h:(nd ns i).k=7:=h
  clear n2 n3 n4 n5 n22 n23 n8 n17 n24 n9 n16 n25 n26 n27
  have hql:=len1 (.inl h)
  try clear len1 len2
  have hqj:=hin _ (getD_mem (l:=(nd ns i).kids) (i:=0) (by omega))
  rw [wr7 h,ht0] at hk
  conv=>whnf
  refine⟨⟨by omega,hql,rfl⟩,?_⟩
  conv=>whnf
  refine⟨ns,root,_,((nd ns i).kids.getD 0 0).toNat,t0,rfl,(Int.toNat_of_nonneg hqj.1).symm,rt,by omega,ht0,?_⟩
  conv=>whnf
  repeat ((refine And.intro ?_ ?_);(focus ((conv=>whnf);first|done|exact⟨⟨by omega,by omega,rfl⟩,by conv=>whnf⟩));conv=>whnf)
  refine⟨ns,root,_,i,t0,0,true,_,rfl,rfl,rt,hi,.inl ⟨rfl,rfl⟩,rfl,?_⟩
  conv=>whnf
  exact hr _ _ rfl hk
 have n7:(nd ns i).k≠7:=h
 conv=>whnf
 refine two_eq (fun h=>?_) (fun h=>?_)
 ·have h:(nd ns i).k=10:=h
  clear n2 n3 n4 n5 n22 n23 n8 n17 n24 n9 n16 n25 n26 n27 n7
  have hql:=len2 (.inl h)
  try clear len1 len2
  have hqj:=hin _ (getD_mem (l:=(nd ns i).kids) (i:=1) (by omega))
  rw [wr10 h,ht1] at hk
  conv=>whnf
  refine⟨⟨by omega,hql,rfl⟩,?_⟩
  conv=>whnf
  refine⟨ns,root,_,((nd ns i).kids.getD 1 0).toNat,t1,rfl,(Int.toNat_of_nonneg hqj.1).symm,rt,by omega,ht1,?_⟩
  conv=>whnf
  repeat ((refine And.intro ?_ ?_);(focus ((conv=>whnf);first|done|exact⟨⟨by omega,by omega,rfl⟩,by conv=>whnf⟩));conv=>whnf)
  refine⟨_,rfl,?_⟩
  conv=>whnf
  exact hr _ _ rfl hk
 have n10:(nd ns i).k≠10:=h
 conv=>whnf
 refine two_eq (fun h=>?_) (fun h=>?_)
 ·have h:(nd ns i).k=15:=h
  clear n2 n3 n4 n5 n22 n23 n8 n17 n24 n9 n16 n25 n26 n27 n7 n10
  have hql:=len1 (.inr (.inl h))
  try clear len1 len2
  have hqj:=hin _ (getD_mem (l:=(nd ns i).kids) (i:=0) (by omega))
  rw [wr15 h,ht0] at hk
  conv=>whnf
  refine⟨⟨by omega,hql,rfl⟩,?_⟩
  conv=>whnf
  refine⟨ns,root,_,((nd ns i).kids.getD 0 0).toNat,t0,rfl,(Int.toNat_of_nonneg hqj.1).symm,rt,by omega,ht0,?_⟩
  conv=>whnf
  repeat ((refine And.intro ?_ ?_);(focus ((conv=>whnf);first|done|exact⟨⟨by omega,by omega,rfl⟩,by conv=>whnf⟩));conv=>whnf)
  refine⟨_,rfl,?_⟩
  conv=>whnf
  exact hr _ _ rfl hk
 have n15:(nd ns i).k≠15:=h
 conv=>whnf
 refine two_eq (fun h=>?_) (fun h=>?_)
 ·have h:(nd ns i).k=11:=h
  clear n2 n3 n4 n5 n22 n23 n8 n17 n24 n9 n16 n25 n26 n27 n7 n10 n15
  have hql:=len1 (.inr (.inr (.inl h)))
  try clear len1 len2
  have hqj:=hin _ (getD_mem (l:=(nd ns i).kids) (i:=0) (by omega))
  rw [wr11 h,ht0] at hk
  conv=>whnf
  refine⟨⟨by omega,hql,rfl⟩,?_⟩
  conv=>whnf
  refine⟨ns,root,_,((nd ns i).kids.getD 0 0).toNat,t0,rfl,(Int.toNat_of_nonneg hqj.1).symm,rt,by omega,ht0,?_⟩
  conv=>whnf
  repeat ((refine And.intro ?_ ?_);(focus ((conv=>whnf);first|done|exact⟨⟨by omega,by omega,rfl⟩,by conv=>whnf⟩));conv=>whnf)
  refine⟨_,rfl,?_⟩
  conv=>whnf
  exact hr _ _ rfl hk
 have n11:(nd ns i).k≠11:=h
 conv=>whnf
 refine two_eq (fun h=>?_) (fun h=>?_)
 ·have h:(nd ns i).k=12:=h
  clear n2 n3 n4 n5 n22 n23 n8 n17 n24 n9 n16 n25 n26 n27 n7 n10 n15 n11
  have hql:=len1 (.inr (.inr (.inr h)))
  try clear len1 len2
  have hqj:=hin _ (getD_mem (l:=(nd ns i).kids) (i:=0) (by omega))
  rw [wr12 h,ht0] at hk
  conv=>whnf
  refine⟨⟨by omega,hql,rfl⟩,?_⟩
  conv=>whnf
  refine⟨ns,root,_,((nd ns i).kids.getD 0 0).toNat,t0,rfl,(Int.toNat_of_nonneg hqj.1).symm,rt,by omega,ht0,?_⟩
  conv=>whnf
  repeat ((refine And.intro ?_ ?_);(focus ((conv=>whnf);first|done|exact⟨⟨by omega,by omega,rfl⟩,by conv=>whnf⟩));conv=>whnf)
  refine⟨_,rfl,?_⟩
  conv=>whnf
  exact hr _ _ rfl hk
 have n12:(nd ns i).k≠12:=h
 conv=>whnf
 refine two_eq (fun h=>?_) (fun h=>?_)
 ·have h:(nd ns i).k=13:=h
  clear len1 len2
  clear n2 n3 n4 n5 n22 n23 n8 n17 n24 n9 n16 n25 n26 n27 n7 n10 n15 n11 n12
  rw [wr13 h] at hk
  conv=>whnf
  refine⟨ns,root,_,i,_,rfl,rfl,rt,hi,h,rfl,?_⟩
  conv=>whnf
  exact hr _ _ rfl hk
 have n13:(nd ns i).k≠13:=h
 conv=>whnf
 refine two_eq (fun h=>?_) (fun h=>?_)
 ·have h:(nd ns i).k=14:=h
  clear len1 len2
  clear n2 n3 n4 n5 n22 n23 n8 n17 n24 n9 n16 n25 n26 n27 n7 n10 n15 n11 n12 n13
  have o12:=own_in rt hi (by omega)
  rw [ho] at o12
  have o1:=o12.1
  have o2:=o12.2
  rw [wr14 h,ho,retR] at hk
  conv=>whnf
  refine⟨ns,root,_,i,o,rfl,rfl,rt,hi,ho,?_⟩
  conv=>whnf
  repeat ((refine And.intro ?_ ?_);(focus ((conv=>whnf);first|done|exact⟨⟨by omega,by omega,rfl⟩,by conv=>whnf⟩));conv=>whnf)
  refine⟨⟨o1,o2,rfl⟩,?_⟩
  conv=>whnf
  refine two_eq (fun h2=>?_) (fun h2=>?_)
  ·have h2:(nd ns i).kids.length=0:=by have h2:((nd ns i).kids.length:Int)=0:=h2;omega
   rw [if_pos h2] at hk
   conv=>whnf
   refine⟨_,rfl,?_⟩
   conv=>whnf
   exact hr _ _ rfl hk
  have h2:(nd ns i).kids.length≠0:=by have h2:((nd ns i).kids.length:Int)≠0:=h2;omega
  rw [if_neg h2] at hk
  have hql:=(show (0:Int)<((nd ns i).kids.length:Int) by omega)
  try clear len1 len2
  have hqj:=hin _ (getD_mem (l:=(nd ns i).kids) (i:=0) (by omega))
  rw [ht0] at hk
  conv=>whnf
  refine two_ne (fun h3=>?_) (fun h3=>?_)
  ·have h3:(nd ns o.toNat).n≠0:=h3
   rw [bne_iff_ne.2 h3,Bool.true_and] at hk
   conv=>whnf
   refine⟨⟨by omega,hql,rfl⟩,?_⟩
   conv=>whnf
   refine⟨ns,root,_,((nd ns i).kids.getD 0 0).toNat,t0,rfl,(Int.toNat_of_nonneg hqj.1).symm,rt,by omega,ht0,?_⟩
   conv=>whnf
   repeat ((refine And.intro ?_ ?_);(focus ((conv=>whnf);first|done|exact⟨⟨by omega,by omega,rfl⟩,by conv=>whnf⟩));conv=>whnf)
   refine⟨_,rfl,?_⟩
   conv=>whnf
   exact hr _ _ rfl hk
  ·have h3:(nd ns o.toNat).n=0:=h3
   rw [h3] at hk
   conv=>whnf
   refine⟨_,rfl,?_⟩
   conv=>whnf
   exact hr _ _ rfl hk
 have n14:(nd ns i).k≠14:=h
 rw [wrD n2 n3 n4 n5 n22 n23 n8 n17 n24 n9 n16 n25 n26 n27 n7 n10 n15 n11 n12 n13 n14] at hk
 conv=>whnf
 exact hr _ _ rfl hk
theorem small_kt {m:Nat} {ns:List Nd} (hm:m<1000000) (h:smallS m ns=true):Kt ns:=by
 simp only [smallS,Bool.and_eq_true,decide_eq_true_eq,List.all_eq_true] at h
 refine⟨by omega,fun i=>?_⟩
 by_cases hi:i<ns.length
 ·have:=(h.2 ns[i] (List.getElem_mem hi)).1
  show (ns.getD i default).kids.length<1000000
  rw [List.getD_eq_getElem?_getD,List.getElem?_eq_getElem hi]
  simp only [Option.getD_some];omega
 ·rw [show nd ns i=default by simp [nd,Nat.le_of_not_lt hi]]
  exact (by decide:(default:Nd).kids.length<1000000)
end Go.Proofs.YtojjkleplnijaaaGreatDoor
