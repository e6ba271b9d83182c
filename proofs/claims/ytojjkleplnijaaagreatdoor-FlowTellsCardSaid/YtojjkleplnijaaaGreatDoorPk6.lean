/-
  On the way to flowTells_card: part 6 of 11.
-/
import Derived.Test.YtojjkleplnijaaaGreatDoorPk1
import Derived.Test.YtojjkleplnijaaaGreatDoorPk4
import Derived.Test.YtojjkleplnijaaaGreatDoorPk5
set_option linter.unusedVariables false
set_option linter.unusedSimpArgs false
namespace Go.Proofs.YtojjkleplnijaaaGreatDoor
open Go.AE Go.Ru
set_option maxRecDepth 100000
set_option maxHeartbeats 1000000
def strM (f:Bs→Option Nat) (κ:MK):Option PV:=match κ with
 | .s l=>match f l with
  | some j=>some (.int .i64 (j:Int))
  | none=>none
 | .i _ _=>none
def isProcB (ns:List Nd) (o:Int):Bool:=decide (0≤o)&&(decide (o<ns.length)&&(nd ns o.toNat).k==3)
def locM (ns:List Nd) (root:Int) (κ:MK):Option PV:=match κ with
 | .i _ o=>match isProcB ns o with
  | true=>some (.mp .str (strM (locS ns root o)))
  | false=>none
 | .s _=>none
def scC (ns:List Nd) (root:Int):List PV:=[.sl 5 ns.length (nodeF ns),.int .i64 root,.sl 1 ns.length (rowF (own ns root)),.mp .str (strM (globS ns)),.mp .str (strM (tprocS ns)),.mp (.int .i64) (locM ns root)]
def scV (ns:List Nd) (root:Int):AV:=.rop (scC ns root) 0
theorem strM_some {f:Bs→Option Nat} {l:Bs} {j:Nat} (h:f l=some j):strM f (.s l)=some (.int .i64 (j:Int)):=by simp only [strM,h]
theorem strM_none {f:Bs→Option Nat} {l:Bs} (h:f l=none):strM f (.s l)=none:=by simp only [strM,h]
theorem locM_yes {ns:List Nd} {root o:Int} {q:IntKind} (h:isProcB ns o=true):locM ns root (.i q o)=some (.mp .str (strM (locS ns root o))):=by simp only [locM,h]
theorem isProcB_own {ns:List Nd} {root:Int} (h:Std ns root) {i:Nat} (hi:i<ns.length) (ho:own ns root i≠-1):isProcB ns (own ns root i)=true:=by
 rcases own_range h hi with e|⟨e1,e2,e3⟩
 ·exact absurd e ho
 ·simp only [isProcB,e3,beq_self_eq_true,Bool.and_true,Bool.and_eq_true,decide_eq_true_eq];omega
def cMeans:AC:=fun args K k=>∃ ns root i name,args=[scV ns root,.p (.int .i64 ((i:Nat):Int)),.p (.str name)]∧Std ns root∧i<ns.length∧k (.ret (intV (meansS ns root i name))) K
theorem means_ok:COk 55 cMeans:=by
 rintro args K k ⟨ns,root,i,name,rfl,st,hi,hk⟩
 refine frame0P g0_ok 19 rfl fun Q hr=>?_
 unfold meansS at hk
 conv=>whnf
 refine⟨⟨by omega,by omega,rfl⟩,?_⟩
 conv=>whnf
 refine two_eq (fun h=>?_) (fun h=>?_)
 ·have h:own ns root i=-1:=h
  rw [h] at hk
  conv=>whnf
  exact hr _ _ rfl hk
 have h:own ns root i≠-1:=h
 rw [show (own ns root i==-1)=false from beq_eq_false_iff_ne.2 h] at hk
 conv=>whnf
 refine MGet.pv_some (locM_yes (isProcB_own st hi h)) ?_
 conv=>whnf
 cases hl:locS ns root (own ns root i) name with
 | some d =>
  rw [hl] at hk
  refine MGet.pv_some (strM_some hl) ?_
  conv=>whnf
  exact hr _ _ rfl hk
 | none =>
  rw [hl] at hk
  refine MGet.pv_none (strM_none hl) ?_
  conv=>whnf
  cases hg:globS ns name with
  | some d =>
   rw [hg] at hk
   refine MGet.pv_some (strM_some hg) ?_
   conv=>whnf
   exact hr _ _ rfl hk
  | none =>
   rw [hg] at hk
   refine MGet.pv_none (strM_none hg) ?_
   conv=>whnf
   exact hr _ _ rfl hk
def cTProc:AC:=fun args K k=>∃ ns root name,args=[scV ns root,.p (.str name)]∧k (.ret (intV (procI ns name))) K
theorem proc_ok':COk 47 cTProc:=by
 rintro args K k ⟨ns,root,name,rfl,hk⟩
 refine frame0P g0_ok 19 rfl fun Q hr=>?_
 unfold procI at hk
 conv=>whnf
 cases hg:tprocS ns name with
 | some d =>
  rw [hg] at hk
  refine MGet.pv_some (strM_some hg) ?_
  conv=>whnf
  exact hr _ _ rfl hk
 | none =>
  rw [hg] at hk
  refine MGet.pv_none (strM_none hg) ?_
  conv=>whnf
  exact hr _ _ rfl hk
def gMe:AG:=gput 55 cMeans g0
theorem gMe_ok:GOk Tryz.prog gMe:=gput_ok means_ok g0_ok
def cKind:AC:=fun args K k=>∃ ns root i name,args=[scV ns root,.p (.int .i64 ((i:Nat):Int)),.p (.str name)]∧Std ns root∧i<ns.length∧k (.ret (intV (kindS ns root i name))) K
theorem kind_ok:COk 113 cKind:=by
 rintro args K k ⟨ns,root,i,name,rfl,st,hi,hk⟩
 refine frame0P gMe_ok 19 rfl fun Q hr=>?_
 unfold kindS at hk
 conv=>whnf
 refine⟨ns,root,i,name,rfl,st,hi,?_⟩
 conv=>whnf
 have hm:=means_range ns root i name
 generalize meansS ns root i name=d at hk hm
 refine two_ne (fun h=>?_) (fun h=>?_)
 ·have h:d≠-1:=h
  rw [show (d != -1)=true from bne_iff_ne.2 h] at hk
  conv=>whnf
  refine⟨⟨by omega,by omega,rfl⟩,?_⟩
  conv=>whnf
  exact hr _ _ rfl hk
 ·have h:d=-1:=h
  subst h
  conv=>whnf
  exact hr _ _ rfl hk
def kiB (l:List Int):ABlk:=.arr 3 1 0 l.length (fun i=>pvs (kidF l i))
theorem kiB_snoc (l:List Int) (x:Int) (f:Nat→List AV) (hf:f 0=[intV x]):(ABlk.arr 3 1 0 (l.length+1) (catF l.length (fun i=>pvs (kidF l i)) f)).le (kiB (l++[x])):=by
 refine ABlk.arr_eq (by simp) fun i hi=>?_
 by_cases h:i<l.length
 ·rw [catF_lt h]
  simp [kidF,List.getD_eq_getElem?_getD,List.getElem?_append_left h]
 ·obtain rfl:i=l.length:=by omega
  rw [catF_ge (Nat.le_refl _),Nat.sub_self,hf]
  simp [kidF,List.getD_eq_getElem?_getD,pvs,intV]
theorem kiB_cl (l:List Int) (x:Int) (f:Nat→List AV) (n:Nat) (hf:f 0=[intV x]):(ABlk.arr 3 1 0 (l.length+1) (catF l.length (fun i=>pvs (kidF l i)) f)).cl n:=fun i hi=>by
 by_cases h:i<l.length
 ·rw [catF_lt h];rfl
 ·obtain rfl:i=l.length:=by omega
  rw [catF_ge (Nat.le_refl _),Nat.sub_self,hf];rfl
structure KC where
 j:Nat
 l:List Int
def parsL (ns:List Nd) (ks:List Int):List Int:=(ks.filter fun q=>(nd ns q.toNat).k==4).map fun q=>(nd ns q.toNat).n
def intsV (l:List Int):AV:=.p (.sl 1 l.length (kidF l))
def cParams:AC:=fun args K k=>∃ ns root p,args=[scV ns root,.p (.int .i64 ((p:Nat):Int))]∧Std ns root∧p<ns.length∧k (.ret (intsV (paramsS ns p))) K
theorem params_ok:COk 48 cParams:=by
 rintro args K k ⟨ns,root,p,rfl,st,hp,hk⟩
 have hlen:=st.len
 have hmany:=st.many p hp
 have hkid:=st.kid p hp
 refine frame0W g0_ok 19 rfl fun Q hr=>?_
 conv=>whnf
 refine⟨⟨by omega,by omega,rfl⟩,?_⟩
 conv=>whnf
 refine loop_nil (ι:=KC) 3 1 (fun i=>pvs (kidF [] i)) (fun c=>⟨[(0,scV ns root),(17,.p (.sl 1 (nd ns p).kids.length (kidF (nd ns p).kids))),(18,intV (nd ns p).kids.length),(19,intV c.j),(5,.slr 0 0 0 c.l.length)],[kiB c.l]⟩)
  (fun c=>c.j≤(nd ns p).kids.length∧c.l.length≤c.j∧c.l++parsL ns ((nd ns p).kids.drop c.j)=paramsS ns p) (fun c=>(nd ns p).kids.length - c.j) ⟨0,[]⟩ []
  rfl ⟨.inl (AV.le_refl _),.inl (AV.le_refl _),.inl (AV.le_refl _),.inl (AV.le_refl _),.inr ⟨rfl,rfl⟩,trivial⟩ trivial rfl ⟨Nat.zero_le _,Nat.le_refl _,rfl⟩ ?_
 rintro Y hle ⟨j,l⟩ ⟨hj,hl,he⟩ ih
 simp only at hj hl he
 conv=>whnf
 refine two_dec (fun h=>?_) (fun h=>?_)
 ·have h:j<(nd ns p).kids.length:=by have h:(j:Int)<((nd ns p).kids.length:Int):=h;omega
  have hw1:=wzz (i:=j) (by omega)
  rw [List.drop_eq_getElem_cons h] at he
  have e1:(nd ns p).kids.getD j 0=(nd ns p).kids[j]:=by simp [h]
  have hm:=hkid _ (List.getElem_mem h)
  rw [← e1] at he hm
  generalize hq:(nd ns p).kids.getD j 0=q at he hm
  have hq':(nd ns p).kids.getD (j:Int).toNat 0=q:=hq
  conv=>whnf
  refine⟨⟨by omega,by show (j:Int)<((nd ns p).kids.length:Int);omega,rfl⟩,?_⟩
  conv=>whnf
  refine⟨⟨by rw [hq'];omega,by rw [hq'];omega,rfl⟩,?_⟩
  conv=>whnf
  refine two_eq (fun h4=>?_) (fun h4=>?_)
  ·have h4:(nd ns ((nd ns p).kids.getD (j:Int).toNat 0).toNat).k=4:=h4
   rw [hq'] at h4
   have he:(l++[(nd ns q.toNat).n])++parsL ns ((nd ns p).kids.drop (j+1))=paramsS ns p:=by
    rw [← he];simp [parsL,h4]
   conv=>whnf
   refine⟨⟨rfl,rfl,rfl,allLt_ok ⟨trivial,rfl⟩⟩,?_⟩
   conv=>whnf
   refine⟨⟨rfl,rfl,rfl,rfl,?_,?_⟩,?_⟩
   ·show (l.length+1)*8≤140737488355328
    omega
   ·show l.length+1≤9223372036854775807
    omega
   conv=>whnf
   refine hle _ _ (Le.cutEnv 1 rfl rfl ⟨kiB_cl l _ _ 1 rfl,trivial⟩ ?_ ?_) (ih ⟨j+1,l++[(nd ns q.toNat).n]⟩ (by show _ - (j+1)<_ - j;omega) ⟨h,by simp;omega,he⟩)
   ·skip
    repeat' (first|exact trivial|((conv=>whnf);first|exact trivial|refine⟨AV.le_refl _,?_⟩|refine⟨ABlk.le_refl _,?_⟩|(refine⟨AV.le_of_eq ?_,?_⟩;focus ((first|exact congrArg intV hw1|exact congrArg (fun n=>AV.slr 0 0 0 n) (by simp)|fail);done))|(refine⟨ABlk.le_of_eq ?_,?_⟩;focus ((first|exact congrArg intV hw1|exact congrArg (fun n=>AV.slr 0 0 0 n) (by simp)|fail);done))|fail)|fail)
   ·(conv=>whnf)
    refine⟨kiB_snoc l _ _ (congrArg (fun q:Int=>[intV (nd ns q.toNat).n]) hq'),?_⟩
    trivial
  ·have h4:(nd ns ((nd ns p).kids.getD (j:Int).toNat 0).toNat).k≠4:=h4
   rw [hq'] at h4
   have he:l++parsL ns ((nd ns p).kids.drop (j+1))=paramsS ns p:=by
    rw [← he];simp [parsL,h4]
   conv=>whnf
   refine hle _ _ (Le.cutEnv 1 rfl rfl ⟨fun _ _=>rfl,trivial⟩ ?_ ?_) (ih ⟨j+1,l⟩ (by show _ - (j+1)<_ - j;omega) ⟨h,by show l.length≤j+1;omega,he⟩)
   ·skip
    repeat' (first|exact trivial|((conv=>whnf);first|exact trivial|refine⟨AV.le_refl _,?_⟩|refine⟨ABlk.le_refl _,?_⟩|(refine⟨AV.le_of_eq ?_,?_⟩;focus ((first|exact congrArg intV hw1|fail);done))|(refine⟨ABlk.le_of_eq ?_,?_⟩;focus ((first|exact congrArg intV hw1|fail);done))|fail)|fail)
   ·skip
    repeat' (first|exact trivial|((conv=>whnf);first|exact trivial|refine⟨AV.le_refl _,?_⟩|refine⟨ABlk.le_refl _,?_⟩|fail)|fail)
 ·obtain rfl:j=(nd ns p).kids.length:=by have h:¬ (j:Int)<((nd ns p).kids.length:Int):=h;omega
  rw [List.drop_length] at he
  simp only [parsL,List.filter_nil,List.map_nil,List.append_nil] at he
  subst he
  conv=>whnf
  exact hr _ _ _ _ (Wk1.freeze (r:=0) rfl (kidF (paramsS ns p)) (fun _ _=>rfl)) rfl hk
def cKB (p:Int→Bool):AC:=fun args K k=>∃ x b,args=[intV x]∧p x=b∧k (.ret (.p (.bool b))) K
theorem rst_ok:COk 198 (cKB stB):=by
 rintro args K k ⟨x,b,rfl,rfl,hk⟩
 refine frame0P g0_ok 19 rfl fun Q hr=>?_
 conv=>whnf
 repeat' (first|((first|refine two_eq ?_ ?_|refine two_ne ?_ ?_|refine two_not ?_ ?_|refine two_dec ?_ ?_|refine two_intro ?_ ?_)<;>intro h<;>conv=>whnf)|((first|refine Chk.mk ?_ ?_|refine And.intro ?_ ?_);(focus (((repeat' (refine And.intro ?_ ?_))<;>(first|omega|rfl|(simp only [List.length_append,List.length_cons,List.length_nil];omega)|fail));done));conv=>whnf)|(refine Exists.intro _ (And.intro rfl ?_))|(refine Exists.intro _ (Exists.intro _ (And.intro rfl ?_)))|(refine Exists.intro _ (Exists.intro _ (Exists.intro _ (And.intro rfl ?_))))|fail)
 all_goals exact hr _ _ rfl (ret_eq hk (by simp [stB, *]))
theorem rex_ok:COk 200 (cKB exB):=by
 rintro args K k ⟨x,b,rfl,rfl,hk⟩
 refine frame0P g0_ok 19 rfl fun Q hr=>?_
 conv=>whnf
 repeat' (first|((first|refine two_eq ?_ ?_|refine two_ne ?_ ?_|refine two_not ?_ ?_|refine two_dec ?_ ?_|refine two_intro ?_ ?_)<;>intro h<;>conv=>whnf)|((first|refine Chk.mk ?_ ?_|refine And.intro ?_ ?_);(focus (((repeat' (refine And.intro ?_ ?_))<;>(first|omega|rfl|(simp only [List.length_append,List.length_cons,List.length_nil];omega)|fail));done));conv=>whnf)|(refine Exists.intro _ (And.intro rfl ?_))|(refine Exists.intro _ (Exists.intro _ (And.intro rfl ?_)))|(refine Exists.intro _ (Exists.intro _ (Exists.intro _ (And.intro rfl ?_))))|fail)
 all_goals exact hr _ _ rfl (ret_eq hk (by simp [exB, *]))
def cRSigned:AC:=fun args K k=>∃ l,args=[.p (.str l)]∧k (.ret (.p (.bool (signW.any (·==l))))) K
theorem rsigned_ok:COk 196 cRSigned:=by
 rintro args K k ⟨l,rfl,hk⟩
 refine frame0P g0_ok 19 rfl fun Q hr=>?_
 conv=>whnf
 refine loop_up (ι:=Nat) [0,3] (fun i=>[(4,.p (.int .i64 i)),(2,.p (.bool false))]) (fun _=>[(0,.arr 9 1 0 13 fun i=>[.p (.str (signW.getD i []))])])
  (fun i=>i≤13∧(signW.take i).any (·==l)=false) (fun i=>13 - i) 0 ⟨AV.le_refl _,AV.le_refl _,trivial⟩ ⟨upLe1 rfl (ABlk.arr_eq rfl fun i hi=>?_),trivial⟩ ⟨by omega,rfl⟩ ?_
 ·match i,hi with
  | 0,_=>rfl
  | 1,_=>rfl
  | 2,_=>rfl
  | 3,_=>rfl
  | 4,_=>rfl
  | 5,_=>rfl
  | 6,_=>rfl
  | 7,_=>rfl
  | 8,_=>rfl
  | 9,_=>rfl
  | 10,_=>rfl
  | 11,_=>rfl
  | 12,_=>rfl
  | n+13,h=>exact absurd h (by omega)
 intro Y hle i ⟨hi,ha⟩ ih
 conv=>whnf
 repeat' (first|((first|refine two_eq ?_ ?_|refine two_ne ?_ ?_|refine two_not ?_ ?_|refine two_dec ?_ ?_|refine two_intro ?_ ?_)<;>intro h<;>conv=>whnf)|((first|refine Chk.mk ?_ ?_|refine And.intro ?_ ?_);(focus (((repeat' (refine And.intro ?_ ?_))<;>(first|omega|rfl|(simp only [List.length_append,List.length_cons,List.length_nil];omega)|fail));done));conv=>whnf)|(refine Exists.intro _ (And.intro rfl ?_))|(refine Exists.intro _ (Exists.intro _ (And.intro rfl ?_)))|(refine Exists.intro _ (Exists.intro _ (Exists.intro _ (And.intro rfl ?_))))|fail)
 ·have hi2:i<signW.length:=by show i<13;omega
  have h:signW.getD i []=l:=by rw [← ‹signW.getD _ []=l›];congr 1;omega
  rw [any_at hi2 h] at hk
  exact hr _ _ rfl hk
 ·have hi2:i<signW.length:=by show i<13;omega
  have h:signW.getD i []≠l:=by intro e;apply ‹signW.getD _ []≠l›;rw [← e];congr 1;omega
  refine hle _ _ (Le.env ?_ ?_) (ih (i+1) (by omega) ⟨by omega,any_succ hi2 ha h⟩)
  ·skip
   repeat' (first|exact trivial|((conv=>whnf);first|exact trivial|refine⟨AV.le_refl _,?_⟩|refine⟨ABlk.le_refl _,?_⟩|(refine⟨AV.le_of_eq ?_,?_⟩;focus ((first|exact congrArg (fun x=>AV.p (.int .i64 x)) (wz3 (by omega))|fail);done))|(refine⟨ABlk.le_of_eq ?_,?_⟩;focus ((first|exact congrArg (fun x=>AV.p (.int .i64 x)) (wz3 (by omega))|fail);done))|fail)|fail)
  ·exact lesK.refl _
 ·have h:i=signW.length:=by show i=13;omega
  rw [h,List.take_length] at ha
  rw [ha] at hk
  exact hr _ _ rfl hk
def cRNum4:AC:=fun args K k=>∃ n b,args=[nodeV n]∧numberS n.k n.n=b∧k (.ret (.p (.bool b))) K
theorem rnumbers_ok:COk 151 cRNum4:=by
 rintro args K k ⟨n,b,rfl,rfl,hk⟩
 refine frame0P g0_ok 19 rfl fun Q hr=>?_
 conv=>whnf
 repeat' (first|((first|refine two_eq ?_ ?_|refine two_ne ?_ ?_|refine two_not ?_ ?_|refine two_dec ?_ ?_|refine two_intro ?_ ?_)<;>intro h<;>conv=>whnf)|((first|refine Chk.mk ?_ ?_|refine And.intro ?_ ?_);(focus (((repeat' (refine And.intro ?_ ?_))<;>(first|omega|rfl|(simp only [List.length_append,List.length_cons,List.length_nil];omega)|fail));done));conv=>whnf)|(refine Exists.intro _ (And.intro rfl ?_))|(refine Exists.intro _ (Exists.intro _ (And.intro rfl ?_)))|(refine Exists.intro _ (Exists.intro _ (Exists.intro _ (And.intro rfl ?_))))|fail)
 all_goals exact hr _ _ rfl (ret_eq hk (by simp [numberS, *]))
def gQ4:AG:=gput 195 cRIdent (gput 196 cRSigned (gput 198 (cKB stB) (gput 200 (cKB exB) g0)))
theorem gQ4_ok:GOk Tryz.prog gQ4:=gput_ok rident_ok (gput_ok rsigned_ok (gput_ok rst_ok (gput_ok rex_ok g0_ok)))
def cRTx4:AC:=fun args K k=>∃ n b,args=[nodeV n]∧n.tx.length<1000000∧text4 n.k n.tx=b∧k (.ret (.p (.bool b))) K
theorem rtexts_ok:COk 150 cRTx4:=by
 rintro args K k ⟨n,b,rfl,hl,rfl,hk⟩
 refine frame0P gQ4_ok 19 rfl fun Q hr=>?_
 conv=>whnf
 refine⟨n.tx,rfl,hl,?_⟩
 conv=>whnf
 repeat' (first|((first|refine two_eq ?_ ?_|refine two_ne ?_ ?_|refine two_not ?_ ?_|refine two_dec ?_ ?_|refine two_intro ?_ ?_)<;>intro h<;>conv=>whnf)|((first|refine Chk.mk ?_ ?_|refine And.intro ?_ ?_);(focus (((repeat' (refine And.intro ?_ ?_))<;>(first|omega|rfl|(simp only [List.length_append,List.length_cons,List.length_nil];omega)|fail));done));conv=>whnf)|(refine⟨n.tx,rfl,?_⟩;conv=>whnf)|fail)
 all_goals exact hr _ _ rfl (ret_eq hk (by simp [text4, *]))
def cRises:AC:=fun args K k=>∃ l a b c v,args=[intsV l,intV a,intV b,intV c]∧List.length l<1000000∧rises4 l a b c=v∧k (.ret (.p (.bool v))) K
theorem head_in {a:Int} {l:List Int} {i:Nat} (hi:i<l.length) (h:l.getD i 0=a):headN a (l.drop i)=1+headN a (l.drop (i+1)):=by
 unfold headN
 have e:l.getD i 0=l[i]:=by simp [hi]
 rw [List.drop_eq_getElem_cons hi,List.takeWhile_cons_of_pos (by rw [← e,h];simp),List.length_cons];omega
theorem head_out {a:Int} {l:List Int} {i:Nat} (h:l.getD i 0≠a∨l.length≤i):headN a (l.drop i)=0:=by
 unfold headN
 by_cases hi:i<l.length
 ·have h:=h.resolve_right (by omega)
  have e:l.getD i 0=l[i]:=by simp [hi]
  rw [List.drop_eq_getElem_cons hi,List.takeWhile_cons_of_neg (by rw [← e];simpa using h)];rfl
 ·rw [List.drop_of_length_le (by omega)];rfl
theorem rises_ok:COk 197 cRises:=by
 rintro args K k ⟨l,a,b,c,v,rfl,hl,rfl,hk⟩
 refine frame0P g0_ok 19 rfl fun Q hr=>?_
 conv=>whnf
 refine loop_up (ι:=Nat) [0,1,2,3] (fun j=>[(9,intV j)]) (fun _=>[]) (fun j=>j≤l.length∧headN a l=j+headN a (l.drop j)) (fun j=>l.length - j) 0 ⟨AV.le_refl _,trivial⟩ trivial ⟨Nat.zero_le _,by simp⟩ ?_
 rintro Y hle i ⟨hi,he⟩ ih
 conv=>whnf
 refine two_dec (fun h=>?_) (fun h=>?_)
 ·have h:i<l.length:=by have h:(i:Int)<(l.length:Int):=h;omega
  have h':(i:Int)<(l.length:Int):=by omega
  have hw1:=wzz (i:=i) (by omega)
  conv=>whnf
  refine⟨⟨by omega,h',rfl⟩,?_⟩
  conv=>whnf
  refine two_eq (fun h2=>?_) (fun h2=>?_)
  ·have h2:l.getD i 0=a:=h2
   conv=>whnf
   refine hle _ _ (Le.env ?_ ?_) (ih (i+1) (by omega) ⟨by omega,by have:=head_in h h2;omega⟩)
   ·skip
    repeat' (first|exact trivial|((conv=>whnf);first|exact trivial|refine⟨AV.le_refl _,?_⟩|refine⟨ABlk.le_refl _,?_⟩|(refine⟨AV.le_of_eq ?_,?_⟩;focus ((first|exact congrArg intV hw1|fail);done))|(refine⟨ABlk.le_of_eq ?_,?_⟩;focus ((first|exact congrArg intV hw1|fail);done))|fail)|fail)
   ·skip
    repeat' (first|exact trivial|((conv=>whnf);first|exact trivial|refine⟨AV.le_refl _,?_⟩|refine⟨ABlk.le_refl _,?_⟩|fail)|fail)
  ·have h2:l.getD i 0≠a:=h2
   have hi0:headN a l=i:=by have:=head_out (a:=a) (l:=l) (i:=i) (.inl h2);omega
   conv=>whnf
   refine loop_up (ι:=Nat) [0,1,2,3] (fun j=>[(9,intV j)]) (fun _=>[]) (fun j=>headN a l≤j∧j≤l.length∧headN b (l.drop (headN a l))=(j - headN a l)+headN b (l.drop j)) (fun j=>l.length - j) i ⟨AV.le_refl _,trivial⟩ trivial ⟨by omega,hi,by rw [hi0];omega⟩ ?_
   rintro Z hlz j ⟨hj0,hj,hez⟩ ihz
   conv=>whnf
   refine two_dec (fun h5=>?_) (fun h5=>?_)
   ·have h5:j<l.length:=by have h5:(j:Int)<(l.length:Int):=h5;omega
    have h5':(j:Int)<(l.length:Int):=by omega
    have hw2:=wzz (i:=j) (by omega)
    conv=>whnf
    refine⟨⟨by omega,h5',rfl⟩,?_⟩
    conv=>whnf
    refine two_eq (fun h6=>?_) (fun h6=>?_)
    ·have h6:l.getD j 0=b:=h6
     conv=>whnf
     refine hlz _ _ (Le.env ?_ ?_) (ihz (j+1) (by omega) ⟨by omega,by omega,by have:=head_in h5 h6;omega⟩)
     ·skip
      repeat' (first|exact trivial|((conv=>whnf);first|exact trivial|refine⟨AV.le_refl _,?_⟩|refine⟨ABlk.le_refl _,?_⟩|(refine⟨AV.le_of_eq ?_,?_⟩;focus ((first|exact congrArg intV hw2|fail);done))|(refine⟨ABlk.le_of_eq ?_,?_⟩;focus ((first|exact congrArg intV hw2|fail);done))|fail)|fail)
     ·skip
      repeat' (first|exact trivial|((conv=>whnf);first|exact trivial|refine⟨AV.le_refl _,?_⟩|refine⟨ABlk.le_refl _,?_⟩|fail)|fail)
    ·have h6:l.getD j 0≠b:=h6
     have e0:headN b (l.drop (headN a l))=j - headN a l:=by have:=head_out (a:=b) (l:=l) (i:=j) (.inl h6);omega
     have ej:headN a l+headN b (l.drop (headN a l))=j:=by omega
     simp only [rises4,ej] at hk
     conv=>whnf
     refine two_ne (fun h8=>?_) (fun h8=>?_)
     ·have h8:c≠0:=h8
      rw [bne_iff_ne.2 h8] at hk
      have hk:k (.ret (.p (.bool ((j:Int)==(l.length:Int) - 1&&l.getD j 0==c)))) K:=hk
      have hwl:IntKind.i64.wrap ((l.length:Int) - 1)=(l.length:Int) - 1:=by rw [w64 ⟨by omega,by omega⟩]
      conv=>whnf
      refine two_eq (fun h9=>?_) (fun h9=>?_)
      ·have h9:(j:Int)=(l.length:Int) - 1:=by rw [← hwl];exact h9
       have hjl:(j:Int)<(l.length:Int):=by omega
       rw [beq_iff_eq.2 h9,Bool.true_and] at hk
       conv=>whnf
       refine⟨⟨by omega,hjl,rfl⟩,?_⟩
       conv=>whnf
       exact hr _ _ rfl hk
      ·have h9:(j:Int)≠(l.length:Int) - 1:=by rw [← hwl];exact h9
       rw [beq_eq_false_iff_ne.2 h9,Bool.false_and] at hk
       conv=>whnf
       exact hr _ _ rfl hk
     ·have h8:c=0:=h8
      subst h8
      have hk:k (.ret (.p (.bool ((j:Int)==(l.length:Int))))) K:=hk
      conv=>whnf
      exact hr _ _ rfl hk
   ·have h5:l.length≤j:=by have h5:¬ (j:Int)<(l.length:Int):=h5;omega
    have e0:headN b (l.drop (headN a l))=j - headN a l:=by have:=head_out (a:=b) (l:=l) (i:=j) (.inr h5);omega
    have ej:headN a l+headN b (l.drop (headN a l))=j:=by omega
    simp only [rises4,ej] at hk
    conv=>whnf
    refine two_ne (fun h8=>?_) (fun h8=>?_)
    ·have h8:c≠0:=h8
     rw [bne_iff_ne.2 h8] at hk
     have hk:k (.ret (.p (.bool ((j:Int)==(l.length:Int) - 1&&l.getD j 0==c)))) K:=hk
     have hwl:IntKind.i64.wrap ((l.length:Int) - 1)=(l.length:Int) - 1:=by rw [w64 ⟨by omega,by omega⟩]
     conv=>whnf
     refine two_eq (fun h9=>?_) (fun h9=>?_)
     ·have h9:(j:Int)=(l.length:Int) - 1:=by rw [← hwl];exact h9
      have hjl:(j:Int)<(l.length:Int):=by omega
      rw [beq_iff_eq.2 h9,Bool.true_and] at hk
      conv=>whnf
      refine⟨⟨by omega,hjl,rfl⟩,?_⟩
      conv=>whnf
      exact hr _ _ rfl hk
     ·have h9:(j:Int)≠(l.length:Int) - 1:=by rw [← hwl];exact h9
      rw [beq_eq_false_iff_ne.2 h9,Bool.false_and] at hk
      conv=>whnf
      exact hr _ _ rfl hk
    ·have h8:c=0:=h8
     subst h8
     have hk:k (.ret (.p (.bool ((j:Int)==(l.length:Int))))) K:=hk
     conv=>whnf
     exact hr _ _ rfl hk
 ·have h:l.length≤i:=by have h:¬ (i:Int)<(l.length:Int):=h;omega
  have hi0:headN a l=i:=by have:=head_out (a:=a) (l:=l) (i:=i) (.inr h);omega
  conv=>whnf
  refine loop_up (ι:=Nat) [0,1,2,3] (fun j=>[(9,intV j)]) (fun _=>[]) (fun j=>headN a l≤j∧j≤l.length∧headN b (l.drop (headN a l))=(j - headN a l)+headN b (l.drop j)) (fun j=>l.length - j) i ⟨AV.le_refl _,trivial⟩ trivial ⟨by omega,hi,by rw [hi0];omega⟩ ?_
  rintro Z hlz j ⟨hj0,hj,hez⟩ ihz
  conv=>whnf
  refine two_dec (fun h5=>?_) (fun h5=>?_)
  ·have h5:j<l.length:=by have h5:(j:Int)<(l.length:Int):=h5;omega
   have h5':(j:Int)<(l.length:Int):=by omega
   have hw2:=wzz (i:=j) (by omega)
   conv=>whnf
   refine⟨⟨by omega,h5',rfl⟩,?_⟩
   conv=>whnf
   refine two_eq (fun h6=>?_) (fun h6=>?_)
   ·have h6:l.getD j 0=b:=h6
    conv=>whnf
    refine hlz _ _ (Le.env ?_ ?_) (ihz (j+1) (by omega) ⟨by omega,by omega,by have:=head_in h5 h6;omega⟩)
    ·skip
     repeat' (first|exact trivial|((conv=>whnf);first|exact trivial|refine⟨AV.le_refl _,?_⟩|refine⟨ABlk.le_refl _,?_⟩|(refine⟨AV.le_of_eq ?_,?_⟩;focus ((first|exact congrArg intV hw2|fail);done))|(refine⟨ABlk.le_of_eq ?_,?_⟩;focus ((first|exact congrArg intV hw2|fail);done))|fail)|fail)
    ·skip
     repeat' (first|exact trivial|((conv=>whnf);first|exact trivial|refine⟨AV.le_refl _,?_⟩|refine⟨ABlk.le_refl _,?_⟩|fail)|fail)
   ·have h6:l.getD j 0≠b:=h6
    have e0:headN b (l.drop (headN a l))=j - headN a l:=by have:=head_out (a:=b) (l:=l) (i:=j) (.inl h6);omega
    have ej:headN a l+headN b (l.drop (headN a l))=j:=by omega
    simp only [rises4,ej] at hk
    conv=>whnf
    refine two_ne (fun h8=>?_) (fun h8=>?_)
    ·have h8:c≠0:=h8
     rw [bne_iff_ne.2 h8] at hk
     have hk:k (.ret (.p (.bool ((j:Int)==(l.length:Int) - 1&&l.getD j 0==c)))) K:=hk
     have hwl:IntKind.i64.wrap ((l.length:Int) - 1)=(l.length:Int) - 1:=by rw [w64 ⟨by omega,by omega⟩]
     conv=>whnf
     refine two_eq (fun h9=>?_) (fun h9=>?_)
     ·have h9:(j:Int)=(l.length:Int) - 1:=by rw [← hwl];exact h9
      have hjl:(j:Int)<(l.length:Int):=by omega
      rw [beq_iff_eq.2 h9,Bool.true_and] at hk
      conv=>whnf
      refine⟨⟨by omega,hjl,rfl⟩,?_⟩
      conv=>whnf
      exact hr _ _ rfl hk
     ·have h9:(j:Int)≠(l.length:Int) - 1:=by rw [← hwl];exact h9
      rw [beq_eq_false_iff_ne.2 h9,Bool.false_and] at hk
      conv=>whnf
      exact hr _ _ rfl hk
    ·have h8:c=0:=h8
     subst h8
     have hk:k (.ret (.p (.bool ((j:Int)==(l.length:Int))))) K:=hk
     conv=>whnf
     exact hr _ _ rfl hk
  ·have h5:l.length≤j:=by have h5:¬ (j:Int)<(l.length:Int):=h5;omega
   have e0:headN b (l.drop (headN a l))=j - headN a l:=by have:=head_out (a:=b) (l:=l) (i:=j) (.inr h5);omega
   have ej:headN a l+headN b (l.drop (headN a l))=j:=by omega
   simp only [rises4,ej] at hk
   conv=>whnf
   refine two_ne (fun h8=>?_) (fun h8=>?_)
   ·have h8:c≠0:=h8
    rw [bne_iff_ne.2 h8] at hk
    have hk:k (.ret (.p (.bool ((j:Int)==(l.length:Int) - 1&&l.getD j 0==c)))) K:=hk
    have hwl:IntKind.i64.wrap ((l.length:Int) - 1)=(l.length:Int) - 1:=by rw [w64 ⟨by omega,by omega⟩]
    conv=>whnf
    refine two_eq (fun h9=>?_) (fun h9=>?_)
    ·have h9:(j:Int)=(l.length:Int) - 1:=by rw [← hwl];exact h9
     have hjl:(j:Int)<(l.length:Int):=by omega
     rw [beq_iff_eq.2 h9,Bool.true_and] at hk
     conv=>whnf
     refine⟨⟨by omega,hjl,rfl⟩,?_⟩
     conv=>whnf
     exact hr _ _ rfl hk
    ·have h9:(j:Int)≠(l.length:Int) - 1:=by rw [← hwl];exact h9
     rw [beq_eq_false_iff_ne.2 h9,Bool.false_and] at hk
     conv=>whnf
     exact hr _ _ rfl hk
   ·have h8:c=0:=h8
    subst h8
    have hk:k (.ret (.p (.bool ((j:Int)==(l.length:Int))))) K:=hk
    conv=>whnf
    exact hr _ _ rfl hk
def cRAll4:AC:=fun args K k=>∃ l n f b,args=[.p (.sl 1 n f)]∧n=List.length l∧(∀ i,i<n→f i=kidF l i)∧List.length l<1000000∧l.all exB=b∧k (.ret (.p (.bool b))) K
theorem rall4_ok:COk 199 cRAll4:=by
 rintro args K k ⟨l,n,f,b,rfl,rfl,hf,hl,rfl,hk⟩
 refine ACalls.pre (?_:ACalls _ _ [intsV l] K k) (Wk.le ⟨AV.sl_le rfl fun i hi=>(hf i hi).symm,trivial⟩ (lesK.refl K))
 refine frame0P (gput_ok rex_ok g0_ok) 19 rfl fun Q hr=>?_
 conv=>whnf
 refine loop_up (ι:=Nat) [0] (fun j=>[(3,intV j)]) (fun _=>[]) (fun j=>j≤l.length∧(l.drop j).all exB=l.all exB) (fun j=>l.length - j) 0 ⟨AV.le_refl _,trivial⟩ trivial ⟨Nat.zero_le _,by simp⟩ ?_
 rintro Y hle i ⟨hi,he⟩ ih
 conv=>whnf
 refine two_dec (fun h=>?_) (fun h=>?_)
 ·have h:i<l.length:=by have h:(i:Int)<(l.length:Int):=h;omega
  have h':(i:Int)<(l.length:Int):=by omega
  have hw1:=wzz (i:=i) (by omega)
  have e1:l.getD i 0=l[i]:=by simp [h]
  rw [List.drop_eq_getElem_cons h,List.all_cons,← e1] at he
  conv=>whnf
  refine⟨⟨by omega,h',rfl⟩,?_⟩
  conv=>whnf
  cases hx:exB (l.getD i 0) with
  | false =>
   rw [hx,Bool.false_and] at he
   refine⟨l.getD i 0,false,rfl,hx,?_⟩
   rw [← he] at hk
   conv=>whnf
   exact hr _ _ rfl hk
  | true =>
   rw [hx,Bool.true_and] at he
   refine⟨l.getD i 0,true,rfl,hx,?_⟩
   conv=>whnf
   refine hle _ _ (Le.env ?_ ?_) (ih (i+1) (by omega) ⟨by omega,he⟩)
   ·skip
    repeat' (first|exact trivial|((conv=>whnf);first|exact trivial|refine⟨AV.le_refl _,?_⟩|refine⟨ABlk.le_refl _,?_⟩|(refine⟨AV.le_of_eq ?_,?_⟩;focus ((first|exact congrArg intV hw1|fail);done))|(refine⟨ABlk.le_of_eq ?_,?_⟩;focus ((first|exact congrArg intV hw1|fail);done))|fail)|fail)
   ·skip
    repeat' (first|exact trivial|((conv=>whnf);first|exact trivial|refine⟨AV.le_refl _,?_⟩|refine⟨ABlk.le_refl _,?_⟩|fail)|fail)
 ·obtain rfl:i=l.length:=by have h:¬ (i:Int)<(l.length:Int):=h;omega
  rw [List.drop_length,List.all_nil] at he
  rw [← he] at hk
  conv=>whnf
  exact hr _ _ rfl hk
theorem list_eq_len {a b:List Int} (h:a.length=b.length) (h':∀ i,i<a.length→a.getD i 0=b.getD i 0):a=b:=by
 refine List.ext_getElem h fun i h1 h2=>?_
 have:=h' i h1
 simpa [h1,h2] using this
def cTEqI:AC:=fun args K k=>∃ (a b:List Int) (f:Nat→List AV) (X:List ABlk),args=[intsV a,.slr 0 0 0 b.length]∧K=[.arr 3 1 0 b.length f]++X∧a.length<1000000∧(∀ i,i<b.length→f i=[intV (b.getD i 0)]) ∧
 k (.ret (.p (.bool (a==b)))) ([.arr 3 1 0 b.length f]++X)
theorem teqI_ok:COk 112 cTEqI:=by
 rintro args K k ⟨a,b,f,X,rfl,rfl,ha,hf,hk⟩
 refine frameG (K0:=[.arr 3 1 0 b.length f]) g0_ok 19 rfl ⟨fun i hi=>by rw [hf i hi];rfl,trivial⟩ fun Q hr=>?_
 conv=>whnf
 refine two_ne (fun h=>?_) (fun h=>?_)
 ·have h:(a.length:Int)≠(b.length:Int):=h
  conv=>whnf
  refine hr _ _ _ _ rfl rfl ⟨fun i hi=>by rw [hf i hi];rfl,trivial⟩ (AV.le_of_eq ?_) (lesK.refl _) hk
  have:a≠b:=fun e=>h (by rw [e])
  rw [beq_eq_false_iff_ne.2 this]
 have h:a.length=b.length:=by have h:(a.length:Int)=(b.length:Int):=h;omega
 conv=>whnf
 refine loop_up (ι:=Nat) [0,1,12] (fun i=>[(13,intV i)]) (fun _=>[]) (fun i=>i≤a.length∧∀ j,j<i→a.getD j 0=b.getD j 0) (fun i=>a.length - i) 0 ⟨AV.le_refl _,trivial⟩ trivial ⟨Nat.zero_le _,fun j hj=>absurd hj (Nat.not_lt_zero j)⟩ ?_
 rintro Y hle i ⟨hi,he⟩ ih
 conv=>whnf
 refine two_dec (fun h2=>?_) (fun h2=>?_)
 ·have h2:i<a.length:=by have h2:(i:Int)<(a.length:Int):=h2;omega
  have hw1:=wzz (i:=i) (by omega)
  conv=>whnf
  refine⟨⟨by omega,by omega,rfl⟩,?_⟩
  conv=>whnf
  refine⟨⟨rfl,Nat.zero_add _,by omega,by omega,rfl⟩,?_⟩
  conv=>whnf
  refine⟨⟨rfl,rfl⟩,?_⟩
  have hf2:f (0+(i:Int).toNat)=[intV (b.getD i 0)]:=by rw [Nat.zero_add];exact hf i (by omega)
  rw [hf2]
  conv=>whnf
  refine two_ne (fun h3=>?_) (fun h3=>?_)
  ·have h3:a.getD i 0≠b.getD i 0:=h3
   conv=>whnf
   refine hr _ _ _ _ rfl rfl ⟨fun i hi=>by rw [hf i hi];rfl,trivial⟩ (AV.le_of_eq ?_) (lesK.refl _) hk
   have:a≠b:=fun e=>h3 (by rw [e])
   rw [beq_eq_false_iff_ne.2 this]
  ·have h3:a.getD i 0=b.getD i 0:=h3
   conv=>whnf
   refine hle _ _ (Le.env ?_ ?_) (ih (i+1) (by omega) ⟨by omega,fun j hj=>?_⟩)
   ·skip
    repeat' (first|exact trivial|((conv=>whnf);first|exact trivial|refine⟨AV.le_refl _,?_⟩|refine⟨ABlk.le_refl _,?_⟩|(refine⟨AV.le_of_eq ?_,?_⟩;focus ((first|exact congrArg intV hw1|fail);done))|(refine⟨ABlk.le_of_eq ?_,?_⟩;focus ((first|exact congrArg intV hw1|fail);done))|fail)|fail)
   ·skip
    repeat' (first|exact trivial|((conv=>whnf);first|exact trivial|refine⟨AV.le_refl _,?_⟩|refine⟨ABlk.le_refl _,?_⟩|fail)|fail)
   ·by_cases e:j=i
    ·subst e;exact h3
    ·exact he j (by omega)
 ·obtain rfl:i=a.length:=by have h2:¬ (i:Int)<(a.length:Int):=h2;omega
  conv=>whnf
  refine hr _ _ _ _ rfl rfl ⟨fun i hi=>by rw [hf i hi];rfl,trivial⟩ (AV.le_of_eq ?_) (lesK.refl _) hk
  rw [list_eq_len h he,beq_self_eq_true]
def gTPl:AG:=gput 48 cParams (gput 112 cTEqI g0)
theorem gTPl_ok:GOk Tryz.prog gTPl:=gput_ok params_ok (gput_ok teqI_ok g0_ok)
def cTPlain:AC:=fun args K k=>∃ ns root p,args=[scV ns root,.p (.int .i64 ((p:Nat):Int))]∧Std ns root∧p<ns.length∧k (.ret (.p (.bool (tplainS ns p)))) K
theorem params_le (ns:List Nd) (p:Nat):(paramsS ns p).length≤(nd ns p).kids.length:=by
 unfold paramsS;rw [List.length_map];exact List.length_filter_le _ _
theorem tplain_ok:COk 57 cTPlain:=by
 rintro args K k ⟨ns,root,p,rfl,st,hp,hk⟩
 have hm:=st.many p hp
 have hl:=st.len
 have hle:=params_le ns p
 refine frame0P gTPl_ok 19 rfl fun Q hr=>?_
 unfold tplainS at hk
 conv=>whnf
 refine⟨ns,root,p,rfl,st,hp,?_⟩
 conv=>whnf
 refine⟨paramsS ns p,[1],_,[],rfl,rfl,by omega,fun i hi=>?_,?_⟩
 ·obtain rfl:i=0:=by simpa using hi
  rfl
 conv=>whnf
 refine two_intro (fun h=>?_) (fun h=>?_)
 ·rw [h] at hk
  conv=>whnf
  refine⟨⟨by omega,by omega,rfl⟩,?_⟩
  conv=>whnf
  exact hr _ _ rfl hk
 ·rw [h] at hk
  conv=>whnf
  exact hr _ _ rfl hk
def gEx2:AG:=gput 113 cKind g0
theorem gEx2_ok:GOk Tryz.prog gEx2:=gput_ok kind_ok g0_ok
def cTy:AC:=fun args K k=>∃ ns root i,args=[scV ns root,.p (.int .i64 ((i:Nat):Int))]∧Std ns root∧i<ns.length∧k (.ret (intV (tyS ns root i))) K
theorem ty_ok:COk 59 cTy:=by
 rintro args K k ⟨ns,root,i,rfl,st,hi,hk⟩
 have hl:=st.len
 refine frame0P gEx2_ok 19 rfl fun Q hr=>?_
 have e:nd ns i=ns.getD ((i:Int)).toNat default:=rfl
 conv=>whnf
 refine⟨⟨by omega,by omega,rfl⟩,?_⟩
 conv=>whnf
 repeat' (first|((first|refine two_eq ?_ ?_|refine two_ne ?_ ?_|refine two_not ?_ ?_|refine two_dec ?_ ?_|refine two_intro ?_ ?_)<;>intro h<;>conv=>whnf)|(refine⟨ns,root,i,_,rfl,st,hi,?_⟩;conv=>whnf)|fail)
 all_goals refine hr _ _ rfl (ret_eq hk (congrArg intV ?_))
 all_goals clear hr hk
 all_goals unfold tyS arith
 all_goals rw [e]
 all_goals simp_all
end Go.Proofs.YtojjkleplnijaaaGreatDoor
namespace Go.Ru
def firstIx (p:Int→Bool) (i:Nat):List Int→Int
 | []=>-1
 | q::r=>match p q with
  | true=>(i:Int)
  | false=>firstIx p (i+1) r
theorem firstIx_any (p:Int→Bool) (i:Nat) (l:List Int):decide (firstIx p i l≥0)=l.any p:=by
 induction l generalizing i with
 | nil=>rfl
 | cons q r ih =>
  unfold firstIx
  rw [List.any_cons]
  cases h:p q with
  | true=>simp
  | false=>simp only [ih,Bool.false_or]
end Go.Ru
namespace Go.Proofs.YtojjkleplnijaaaGreatDoor
open Go.AE Go.Ru
set_option maxRecDepth 100000
set_option maxHeartbeats 1000000
def gTy:AG:=gput 59 cTy g0
theorem gTy_ok:GOk Tryz.prog gTy:=gput_ok ty_ok g0_ok
def InR (ns:List Nd) (q:Int):Prop:=0≤q∧q<(ns.length:Int)
def allK (ns:List Nd) (root kind:Int):List ABlk:=[.box 62 [scV ns root],.box 3 [intV kind]]
def cAll1:AC:=fun args K k=>∃ ns root kind q X,args=[intV q,.ptr 0 0 1 0 0,.ptr 1 0 1 0 0]∧K=allK ns root kind++X∧Std ns root∧InR ns q∧k (.ret (.p (.bool (tyS ns root q.toNat != kind)))) (allK ns root kind++X)
theorem all1_ok:COk 146 cAll1:=by
 rintro args K k ⟨ns,root,kind,q,X,rfl,rfl,st,⟨h1,h2⟩,hk⟩
 obtain⟨i,rfl⟩:∃ i:Nat,q=(i:Int):=⟨q.toNat,by omega⟩
 refine frameG (K0:=allK ns root kind) gTy_ok 19 rfl ⟨rfl,rfl,trivial⟩ fun Q hr=>?_
 conv=>whnf
 refine⟨ns,root,i,rfl,st,by omega,?_⟩
 conv=>whnf
 repeat ((refine And.intro ?_ ?_);(focus ((conv=>whnf);done));conv=>whnf)
 exact hr _ _ _ _ rfl rfl ⟨rfl,rfl,trivial⟩ (AV.le_refl _) (lesK.refl _) hk
def gAl1:AG:=gput 146 cAll1 g0
theorem gAl1_ok:GOk Tryz.prog gAl1:=gput_ok all1_ok g0_ok
def cIdxA:AC:=fun args K k=>∃ ns root kind l X,args=[intsV l,.fn 146 [] [.ptr 0 0 1 0 0,.ptr 1 0 1 0 0]]∧K=allK ns root kind++X∧Std ns root∧List.length l<1000000∧(∀ q∈l,InR ns q) ∧
 k (.ret (intV (firstIx (fun q=>tyS ns root q.toNat != kind) 0 l))) (allK ns root kind++X)
theorem idxA_ok:COk 166 cIdxA:=by
 rintro args K k ⟨ns,root,kind,l,X,rfl,rfl,st,hl,hq,hk⟩
 refine frameG (K0:=allK ns root kind) gAl1_ok 19 rfl ⟨rfl,rfl,trivial⟩ fun Q hr=>?_
 conv=>whnf
 refine loop_up (ι:=Nat) [0,1,7] (fun i=>[(8,intV i)]) (fun _=>[]) (fun i=>i≤l.length∧firstIx (fun q=>tyS ns root q.toNat != kind) i (l.drop i)=firstIx (fun q=>tyS ns root q.toNat != kind) 0 l) (fun i=>l.length - i) 0 ⟨AV.le_refl _,trivial⟩ trivial ⟨Nat.zero_le _,rfl⟩ ?_
 rintro Y hle i ⟨hi,he⟩ ih
 conv=>whnf
 refine two_dec (fun h=>?_) (fun h=>?_)
 ·have h:i<l.length:=by have h:(i:Int)<(l.length:Int):=h;omega
  have hw1:=wzz (i:=i) (by omega)
  rw [List.drop_eq_getElem_cons h] at he
  have e1:l.getD i 0=l[i]:=by simp [h]
  have hm:=hq _ (List.getElem_mem h)
  rw [← e1] at he hm
  conv=>whnf
  refine⟨⟨by omega,by omega,rfl⟩,?_⟩
  conv=>whnf
  refine⟨ns,root,kind,l.getD i 0,[],rfl,rfl,st,hm,?_⟩
  conv=>whnf
  refine two_intro (fun h2=>?_) (fun h2=>?_)
  ·simp only [firstIx,h2] at he
   conv=>whnf
   exact hr _ _ _ _ rfl rfl ⟨rfl,rfl,trivial⟩ (AV.le_refl _) (lesK.refl _) (he▸hk)
  ·simp only [firstIx,h2] at he
   conv=>whnf
   refine hle _ _ (Le.env ?_ ?_) (ih (i+1) (by omega) ⟨by omega,he⟩)
   ·skip
    repeat' (first|exact trivial|((conv=>whnf);first|exact trivial|refine⟨AV.le_refl _,?_⟩|refine⟨ABlk.le_refl _,?_⟩|(refine⟨AV.le_of_eq ?_,?_⟩;focus ((first|exact congrArg intV hw1|fail);done))|(refine⟨ABlk.le_of_eq ?_,?_⟩;focus ((first|exact congrArg intV hw1|fail);done))|fail)|fail)
   ·skip
    repeat' (first|exact trivial|((conv=>whnf);first|exact trivial|refine⟨AV.le_refl _,?_⟩|refine⟨ABlk.le_refl _,?_⟩|fail)|fail)
 ·obtain rfl:i=l.length:=by have h:¬ (i:Int)<(l.length:Int):=h;omega
  rw [List.drop_length] at he
  rw [← he] at hk
  conv=>whnf
  exact hr _ _ _ _ rfl rfl ⟨rfl,rfl,trivial⟩ (AV.le_refl _) (lesK.refl _) hk
def gAl:AG:=gput 166 cIdxA g0
theorem gAl_ok:GOk Tryz.prog gAl:=gput_ok idxA_ok g0_ok
def cAllS:AC:=fun args K k=>∃ ns root kind l,args=[scV ns root,intsV l,intV kind]∧Std ns root∧List.length l<1000000∧(∀ q∈l,InR ns q)∧k (.ret (.p (.bool (allS ns root l kind)))) K
theorem allS_ok:COk 100 cAllS:=by
 rintro args K k ⟨ns,root,kind,l,rfl,st,hl,hq,hk⟩
 refine frame0P gAl_ok 19 rfl fun Q hr=>?_
 conv=>whnf
 refine⟨ns,root,kind,l,[],rfl,rfl,st,hl,hq,?_⟩
 conv=>whnf
 refine hr _ _ rfl (ret_eq hk (congrArg (fun b=>AV.p (.bool b)) ?_))
 show _=!decide (firstIx (fun q=>tyS ns root q.toNat != kind) 0 l≥0)
 rw [firstIx_any,List.not_any_eq_all_not]
 unfold allS
 congr 1
 funext q
 simp only [bne,Bool.not_not]
def gOp:AG:=gput 100 cAllS g0
theorem gOp_ok:GOk Tryz.prog gOp:=gput_ok allS_ok g0_ok
def cOperands:AC:=fun args K k=>∃ ns root n,args=[scV ns root,nodeV n]∧Std ns root∧n.kids.length<1000000∧(∀ q∈n.kids,InR ns q)∧k (.ret (.p (.bool (operandsS ns root n)))) K
theorem operands_ok:COk 102 cOperands:=by
 rintro args K k ⟨ns,root,n,rfl,st,hl,hq,hk⟩
 refine frame0P gOp_ok 19 rfl fun Q hr=>?_
 conv=>whnf
 repeat' (first|((first|refine two_eq ?_ ?_|refine two_ne ?_ ?_|refine two_not ?_ ?_|refine two_dec ?_ ?_|refine two_intro ?_ ?_)<;>intro h<;>conv=>whnf)|(refine⟨ns,root,_,n.kids,rfl,st,hl,hq,?_⟩;conv=>whnf)|fail)
 all_goals refine hr _ _ rfl (ret_eq hk (congrArg (fun b=>AV.p (.bool b)) ?_))
 all_goals clear hr hk
 all_goals unfold operandsS
 all_goals simp_all
def cTwice:AC:=fun args K k=>∃ ns root i,args=[scV ns root,.p (.int .i64 ((i:Nat):Int)),nodeV (nd ns i)]∧RightT ns root∧i<ns.length∧k (.ret (.p (.bool (twiceS ns root i (nd ns i))))) K
theorem twice_ok:COk 96 cTwice:=by
 rintro args K k ⟨ns,root,i,rfl,rt,hi,hk⟩
 have hl:=rt.len
 refine frame0P g0_ok 19 rfl fun Q hr=>?_
 unfold twiceS at hk
 have loc:(nd ns i).k=4∨(nd ns i).k=5→isProcB ns (own ns root i)=true:=fun h=>by
  obtain⟨p,_,_,_,_,h5⟩:=rt.decl hi h
  exact isProcB_own rt.toStd hi (by rw [h5];omega)
 conv=>whnf
 refine two_eq (fun h=>?_) (fun h=>?_)
 ·have h:(nd ns i).k=4:=h
  have loc:=loc (.inl h)
  rw [if_pos (.inl h)] at hk
  conv=>whnf
  refine⟨⟨by omega,by omega,rfl⟩,?_⟩
  conv=>whnf
  refine MGet.pv_some (locM_yes loc) ?_
  conv=>whnf
  cases hg:locS ns root (own ns root i) (nd ns i).tx with
  | some d =>
   rw [hg] at hk
   refine MGet.pv_some (strM_some hg) ?_
   conv=>whnf
   exact hr _ _ rfl hk
  | none =>
   rw [hg] at hk
   refine MGet.pv_none (strM_none hg) ?_
   conv=>whnf
   exact hr _ _ rfl hk
 have h:(nd ns i).k≠4:=h
 conv=>whnf
 refine two_eq (fun h5=>?_) (fun h5=>?_)
 ·have h5:(nd ns i).k=5:=h5
  have loc:=loc (.inr h5)
  rw [if_pos (.inr h5)] at hk
  conv=>whnf
  refine⟨⟨by omega,by omega,rfl⟩,?_⟩
  conv=>whnf
  refine MGet.pv_some (locM_yes loc) ?_
  conv=>whnf
  cases hg:locS ns root (own ns root i) (nd ns i).tx with
  | some d =>
   rw [hg] at hk
   refine MGet.pv_some (strM_some hg) ?_
   conv=>whnf
   exact hr _ _ rfl hk
  | none =>
   rw [hg] at hk
   refine MGet.pv_none (strM_none hg) ?_
   conv=>whnf
   exact hr _ _ rfl hk
 have h5:(nd ns i).k≠5:=h5
 rw [if_neg (by omega)] at hk
 conv=>whnf
 refine two_eq (fun h2=>?_) (fun h2=>?_)
 ·have h2:(nd ns i).k=2:=h2
  rw [if_pos h2] at hk
  conv=>whnf
  cases hg:globS ns (nd ns i).tx with
  | some d =>
   rw [hg] at hk
   refine MGet.pv_some (strM_some hg) ?_
   conv=>whnf
   exact hr _ _ rfl hk
  | none =>
   rw [hg] at hk
   refine MGet.pv_none (strM_none hg) ?_
   conv=>whnf
   exact hr _ _ rfl hk
 have h2:(nd ns i).k≠2:=h2
 rw [if_neg h2] at hk
 conv=>whnf
 cases hg:globS ns (nd ns i).tx with
 | some d =>
  rw [hg] at hk
  refine MGet.pv_some (strM_some hg) ?_
  conv=>whnf
  repeat' (first|((first|refine two_eq ?_ ?_|refine two_ne ?_ ?_|refine two_not ?_ ?_|refine two_dec ?_ ?_|refine two_intro ?_ ?_)<;>intro h<;>conv=>whnf)|((first|refine Chk.mk ?_ ?_|refine And.intro ?_ ?_);(focus (((repeat' (refine And.intro ?_ ?_))<;>(first|omega|rfl|(simp only [List.length_append,List.length_cons,List.length_nil];omega)|fail));done));conv=>whnf)|(refine Exists.intro _ (And.intro rfl ?_))|(refine Exists.intro _ (Exists.intro _ (And.intro rfl ?_)))|(refine Exists.intro _ (Exists.intro _ (Exists.intro _ (And.intro rfl ?_))))|fail)
  exact hr _ _ rfl hk
 | none =>
  rw [hg] at hk
  refine MGet.pv_none (strM_none hg) ?_
  conv=>whnf
  cases hp:tprocS ns (nd ns i).tx with
  | some d =>
   rw [hp] at hk
   refine MGet.pv_some (strM_some hp) ?_
   conv=>whnf
   exact hr _ _ rfl hk
  | none =>
   rw [hp] at hk
   refine MGet.pv_none (strM_none hp) ?_
   conv=>whnf
   exact hr _ _ rfl hk
def cCall1:AC:=fun args K k=>∃ ns root q w X,args=[intV q,intV w,.ptr 0 0 1 0 0]∧K=[.box 62 [scV ns root]]++X∧Std ns root∧InR ns q∧k (.ret (.p (.bool (tyS ns root q.toNat==w)))) ([.box 62 [scV ns root]]++X)
theorem call1_ok:COk 148 cCall1:=by
 rintro args K k ⟨ns,root,q,w,X,rfl,rfl,st,⟨h1,h2⟩,hk⟩
 obtain⟨i,rfl⟩:∃ i:Nat,q=(i:Int):=⟨q.toNat,by omega⟩
 refine frameG (K0:=[.box 62 [scV ns root]]) gTy_ok 19 rfl ⟨rfl,trivial⟩ fun Q hr=>?_
 conv=>whnf
 refine⟨ns,root,i,rfl,st,by omega,?_⟩
 conv=>whnf
 exact hr _ _ _ _ rfl rfl ⟨rfl,trivial⟩ (AV.le_refl _) (lesK.refl _) hk
def gC1:AG:=gput 148 cCall1 g0
theorem gC1_ok:GOk Tryz.prog gC1:=gput_ok call1_ok g0_ok
def nodeB (n:Nd):ABlk:=.box 61 [.p (.int .i64 n.k),.p (.int .i64 n.n),.p (.int .i64 n.at_),.p (.str n.tx),.p (.sl 1 n.kids.length (kidF n.kids))]
def cTEqF:AC:=fun args K k=>∃ (ns:List Nd) (root:Int) (l w:List Int) (X:List ABlk) (wv:AV),args=[intsV l,wv,.fn 148 [] [.ptr 0 0 1 0 0]]∧Std ns root∧l.length<1000000∧(∀ q∈l,InR ns q)∧w.length<1000000 ∧
 ((wv=intsV w∧K=[.box 62 [scV ns root]]++X) ∨
  ∃ n f,wv=.slr 2 0 0 w.length∧K=[.box 62 [scV ns root],nodeB n,.arr 3 1 0 w.length f]++X∧∀ i,i<w.length→f i=[intV (w.getD i 0)]) ∧
 k (.ret (.p (.bool (fitS ns root l w)))) K
theorem fitS_len {ns:List Nd} {root:Int}:∀ {l w:List Int},l.length≠w.length→fitS ns root l w=false:=by
 intro l
 induction l with
 | nil=>intro w h;cases w with
  | nil=>exact absurd rfl h
  | cons=>rfl
 | cons q l ih=>intro w h;cases w with
  | nil=>rfl
  | cons x w =>
   simp only [fitS]
   rw [ih (by simpa using h),Bool.and_false]
theorem teqF_ok:COk 147 cTEqF:=by
 rintro args K k ⟨ns,root,l,w,X,wv,rfl,st,hl,hq,hwl,hwv,hk⟩
 rcases hwv with ⟨rfl,rfl⟩|⟨n,f,rfl,rfl,hf⟩
 ·refine frameG (K0:=[.box 62 [scV ns root]]) gC1_ok 19 rfl ⟨rfl,trivial⟩ fun Q hr=>?_
  conv=>whnf
  refine two_ne (fun h=>?_) (fun h=>?_)
  ·have h:(l.length:Int)≠(w.length:Int):=h
   rw [fitS_len (by omega)] at hk
   conv=>whnf
   exact hr _ _ _ _ rfl rfl ⟨rfl,trivial⟩ (AV.le_refl _) (lesK.refl _) hk
  have h:l.length=w.length:=by have h:(l.length:Int)=(w.length:Int):=h;omega
  conv=>whnf
  refine loop_up (ι:=Nat) [1,2,15,16] (fun i=>[(17,intV i)]) (fun _=>[]) (fun i=>i≤l.length∧fitS ns root (l.drop i) (w.drop i)=fitS ns root l w) (fun i=>l.length - i) 0 ⟨AV.le_refl _,trivial⟩ trivial ⟨Nat.zero_le _,rfl⟩ ?_
  rintro Y hle i ⟨hi,he⟩ ih
  conv=>whnf
  refine two_dec (fun h2=>?_) (fun h2=>?_)
  ·have h2:i<l.length:=by have h2:(i:Int)<(l.length:Int):=h2;omega
   have hw1:=wzz (i:=i) (by omega)
   rw [List.drop_eq_getElem_cons h2,List.drop_eq_getElem_cons (by omega:i<w.length)] at he
   simp only [fitS] at he
   have e1:l.getD i 0=l[i]:=by simp [h2]
   have e2:w.getD i 0=w[i]'(by omega):=by simp [show i<w.length by omega]
   have hm:=hq _ (List.getElem_mem h2)
   rw [← e1] at he hm
   rw [← e2] at he
   conv=>whnf
   refine⟨⟨by omega,by omega,rfl⟩,?_⟩
   conv=>whnf
   refine⟨⟨by omega,by omega,rfl⟩,?_⟩;(conv=>whnf)
   refine⟨ns,root,l.getD i 0,w.getD i 0,[],rfl,rfl,st,hm,?_⟩
   conv=>whnf
   refine two_not (fun h3=>?_) (fun h3=>?_)
   ·rw [h3,Bool.false_and] at he
    conv=>whnf
    exact hr _ _ _ _ rfl rfl ⟨rfl,trivial⟩ (AV.le_refl _) (lesK.refl _) (he▸hk)
   ·rw [h3,Bool.true_and] at he
    conv=>whnf
    refine hle _ _ (Le.env ?_ ?_) (ih (i+1) (by omega) ⟨by omega,he⟩)
    ·skip
     repeat' (first|exact trivial|((conv=>whnf);first|exact trivial|refine⟨AV.le_refl _,?_⟩|refine⟨ABlk.le_refl _,?_⟩|(refine⟨AV.le_of_eq ?_,?_⟩;focus ((first|exact congrArg intV hw1|fail);done))|(refine⟨ABlk.le_of_eq ?_,?_⟩;focus ((first|exact congrArg intV hw1|fail);done))|fail)|fail)
    ·skip
     repeat' (first|exact trivial|((conv=>whnf);first|exact trivial|refine⟨AV.le_refl _,?_⟩|refine⟨ABlk.le_refl _,?_⟩|fail)|fail)
  ·obtain rfl:i=l.length:=by have h2:¬ (i:Int)<(l.length:Int):=h2;omega
   rw [List.drop_length,h,List.drop_length] at he
   rw [← he] at hk
   conv=>whnf
   exact hr _ _ _ _ rfl rfl ⟨rfl,trivial⟩ (AV.le_refl _) (lesK.refl _) hk
 ·have hcl:(ABlk.arr 3 1 0 w.length f).cl 3:=fun i hi=>by rw [hf i hi];rfl
  refine frameG (K0:=[.box 62 [scV ns root],nodeB n,.arr 3 1 0 w.length f]) gC1_ok 19 rfl ⟨rfl,rfl,hcl,trivial⟩ fun Q hr=>?_
  conv=>whnf
  refine two_ne (fun h=>?_) (fun h=>?_)
  ·have h:(l.length:Int)≠(w.length:Int):=h
   rw [fitS_len (by omega)] at hk
   conv=>whnf
   exact hr _ _ _ _ rfl rfl ⟨rfl,rfl,hcl,trivial⟩ (AV.le_refl _) (lesK.refl _) hk
  have h:l.length=w.length:=by have h:(l.length:Int)=(w.length:Int):=h;omega
  conv=>whnf
  refine loop_up (ι:=Nat) [1,2,15,16] (fun i=>[(17,intV i)]) (fun _=>[]) (fun i=>i≤l.length∧fitS ns root (l.drop i) (w.drop i)=fitS ns root l w) (fun i=>l.length - i) 0 ⟨AV.le_refl _,trivial⟩ trivial ⟨Nat.zero_le _,rfl⟩ ?_
  rintro Y hle i ⟨hi,he⟩ ih
  conv=>whnf
  refine two_dec (fun h2=>?_) (fun h2=>?_)
  ·have h2:i<l.length:=by have h2:(i:Int)<(l.length:Int):=h2;omega
   have hw1:=wzz (i:=i) (by omega)
   rw [List.drop_eq_getElem_cons h2,List.drop_eq_getElem_cons (by omega:i<w.length)] at he
   simp only [fitS] at he
   have e1:l.getD i 0=l[i]:=by simp [h2]
   have e2:w.getD i 0=w[i]'(by omega):=by simp [show i<w.length by omega]
   have hm:=hq _ (List.getElem_mem h2)
   rw [← e1] at he hm
   rw [← e2] at he
   conv=>whnf
   refine⟨⟨by omega,by omega,rfl⟩,?_⟩
   conv=>whnf
   refine⟨⟨rfl,Nat.zero_add _,by omega,by omega,rfl⟩,?_⟩;(conv=>whnf);refine⟨⟨rfl,rfl⟩,?_⟩;rw [show f (0+(i:Int).toNat)=[intV (w.getD i 0)] by rw [Nat.zero_add];exact hf i (by omega)];(conv=>whnf)
   refine⟨ns,root,l.getD i 0,w.getD i 0,_,rfl,rfl,st,hm,?_⟩
   conv=>whnf
   refine two_not (fun h3=>?_) (fun h3=>?_)
   ·rw [h3,Bool.false_and] at he
    conv=>whnf
    exact hr _ _ _ _ rfl rfl ⟨rfl,rfl,hcl,trivial⟩ (AV.le_refl _) (lesK.refl _) (he▸hk)
   ·rw [h3,Bool.true_and] at he
    conv=>whnf
    refine hle _ _ (Le.env ?_ ?_) (ih (i+1) (by omega) ⟨by omega,he⟩)
    ·skip
     repeat' (first|exact trivial|((conv=>whnf);first|exact trivial|refine⟨AV.le_refl _,?_⟩|refine⟨ABlk.le_refl _,?_⟩|(refine⟨AV.le_of_eq ?_,?_⟩;focus ((first|exact congrArg intV hw1|fail);done))|(refine⟨ABlk.le_of_eq ?_,?_⟩;focus ((first|exact congrArg intV hw1|fail);done))|fail)|fail)
    ·skip
     repeat' (first|exact trivial|((conv=>whnf);first|exact trivial|refine⟨AV.le_refl _,?_⟩|refine⟨ABlk.le_refl _,?_⟩|fail)|fail)
  ·obtain rfl:i=l.length:=by have h2:¬ (i:Int)<(l.length:Int):=h2;omega
   rw [List.drop_length,h,List.drop_length] at he
   rw [← he] at hk
   conv=>whnf
   exact hr _ _ _ _ rfl rfl ⟨rfl,rfl,hcl,trivial⟩ (AV.le_refl _) (lesK.refl _) hk
def gCa:AG:=gput 55 cMeans (gput 47 cTProc (gput 113 cKind (gput 48 cParams (gput 147 cTEqF g0))))
theorem gCa_ok:GOk Tryz.prog gCa:=gput_ok means_ok (gput_ok proc_ok' (gput_ok kind_ok (gput_ok params_ok (gput_ok teqF_ok g0_ok))))
def cCallS:AC:=fun args K k=>∃ ns root i n q0 r,args=[scV ns root,.p (.int .i64 ((i:Nat):Int)),nodeV n]∧Std ns root∧i<ns.length∧n.kids=q0::r∧(∀ q∈n.kids,InR ns q)∧n.kids.length<1000000∧k (.ret (intV (tcallS ns root i n))) K
theorem callS_ok:COk 103 cCallS:=by
 rintro args K k ⟨ns,root,i,⟨nk,nn,na,tx,kids⟩,q0,r,rfl,st,hi,hkd,hq,hl,hk⟩
 simp only at hkd hq hl
 subst hkd
 have hq0:=hq q0 (List.mem_cons_self ..)
 obtain⟨j0,rfl⟩:∃ j:Nat,q0=(j:Int):=⟨q0.toNat,by have:=hq0.1;omega⟩
 have hj0:j0<ns.length:=by have:=hq0.2;omega
 refine frame0P gCa_ok 19 rfl fun Q hr=>?_
 unfold tcallS at hk
 simp only [List.getD_cons_zero,Int.toNat_natCast,List.tail_cons] at hk
 conv=>whnf
 refine⟨⟨by omega,by show (0:Int)<((r.length+1:Nat):Int);omega,rfl⟩,?_⟩
 conv=>whnf
 refine⟨⟨by show (0:Int)≤(j0:Int);omega,by show (j0:Int)<_;omega,rfl⟩,?_⟩
 conv=>whnf
 refine⟨ns,root,i,(nd ns j0).tx,rfl,st,hi,?_⟩
 conv=>whnf
 repeat ((refine And.intro ?_ ?_);(focus ((conv=>whnf);done));conv=>whnf)
 refine⟨ns,root,(nd ns j0).tx,rfl,?_⟩
 conv=>whnf
 repeat ((refine And.intro ?_ ?_);(focus ((conv=>whnf);done));conv=>whnf)
 have hd:=means_range ns root i (nd ns j0).tx
 have hp:=procI_range ns (nd ns j0).tx
 generalize meansS ns root i (nd ns j0).tx=d at hk hd ⊢
 generalize procI ns (nd ns j0).tx=p at hk hp ⊢
 have fin:∀ (b:Bool),(if (b:Bool) then (0:Int) else 5)=toldS b:=fun b=>rfl
 refine two_eq (fun h1=>?_) (fun h1=>?_)
 ·have h1:d=-1:=h1
  subst h1
  conv=>whnf
  refine two_eq (fun h2=>?_) (fun h2=>?_)
  ·have h2:p=-1:=h2
   rw [if_pos (.inl ⟨rfl,h2⟩)] at hk
   conv=>whnf
   exact hr _ _ rfl hk
  have h2:p≠-1:=h2
  obtain⟨pp,rfl⟩:∃ m:Nat,p=(m:Int):=⟨p.toNat,by omega⟩
  have hpp:pp<ns.length:=by omega
  have hpl:=params_le ns pp
  have hpm:=st.many pp hpp
  have hln:=st.len
  simp only [Int.toNat_natCast] at hk
  conv=>whnf
  refine two_not (fun h3=>?_) (fun h3=>?_)
  ·have h3:(tx==[])=false:=h3
   conv=>whnf
   refine⟨ns,root,i,tx,rfl,st,hi,?_⟩
   conv=>whnf
   refine two_eq (fun h4=>?_) (fun h4=>?_)
   ·have h4:meansS ns root i tx=-1:=h4
    rw [if_pos (.inr ⟨by simpa using h3,h4⟩)] at hk
    conv=>whnf
    exact hr _ _ rfl hk
   have h4:meansS ns root i tx≠-1:=h4
   rw [if_neg (by rintro (⟨_,h⟩|⟨h,h'⟩);exact h2 h;exact h4 h'),if_pos trivial] at hk
   conv=>whnf
   refine⟨⟨by omega,by omega,rfl⟩,?_⟩
   conv=>whnf
   refine⟨ns,root,pp,rfl,st,hpp,?_⟩
   conv=>whnf
   repeat ((refine And.intro ?_ ?_);(focus ((conv=>whnf);first|done|exact⟨⟨by omega,by omega,rfl⟩,by conv=>whnf⟩));conv=>whnf)
   conv=>whnf
   refine⟨⟨by omega,by show (1:Int)≤((r.length+1:Nat):Int);omega,Int.le_refl _,rfl⟩,?_⟩
   conv=>whnf
   refine⟨ns,root,r,paramsS ns pp,_,_,rfl,st,by simp only [List.length_cons] at hl;omega,fun q h=>hq q (List.mem_cons_of_mem _ h),by omega,.inl ⟨rfl,rfl⟩,?_⟩
   conv=>whnf
   repeat' (first|((first|refine two_eq ?_ ?_|refine two_ne ?_ ?_|refine two_not ?_ ?_|refine two_dec ?_ ?_|refine two_intro ?_ ?_)<;>intro h<;>conv=>whnf)|(refine⟨ns,root,i,tx,rfl,st,hi,?_⟩;conv=>whnf)|fail)
   all_goals refine hr _ _ rfl (ret_eq hk (congrArg intV ?_))
   all_goals clear hr hk
   all_goals (try simp only [show ∀ j,ns.getD j default=nd ns j from fun _=>rfl,Int.toNat_natCast] at *)
   all_goals simp_all [toldS]
  ·have h3:(tx==[])=true:=h3
   rw [if_neg (by rintro (⟨_,h⟩|⟨h,h'⟩);exact h2 h;exact absurd (by simpa using h3) h),if_pos trivial] at hk
   conv=>whnf
   refine⟨⟨by omega,by omega,rfl⟩,?_⟩
   conv=>whnf
   refine⟨ns,root,pp,rfl,st,hpp,?_⟩
   conv=>whnf
   repeat ((refine And.intro ?_ ?_);(focus ((conv=>whnf);first|done|exact⟨⟨by omega,by omega,rfl⟩,by conv=>whnf⟩));conv=>whnf)
   conv=>whnf
   refine⟨⟨by omega,by show (1:Int)≤((r.length+1:Nat):Int);omega,Int.le_refl _,rfl⟩,?_⟩
   conv=>whnf
   refine⟨ns,root,r,paramsS ns pp,_,_,rfl,st,by simp only [List.length_cons] at hl;omega,fun q h=>hq q (List.mem_cons_of_mem _ h),by omega,.inl ⟨rfl,rfl⟩,?_⟩
   conv=>whnf
   repeat' (first|((first|refine two_eq ?_ ?_|refine two_ne ?_ ?_|refine two_not ?_ ?_|refine two_dec ?_ ?_|refine two_intro ?_ ?_)<;>intro h<;>conv=>whnf)|(refine⟨ns,root,i,tx,rfl,st,hi,?_⟩;conv=>whnf)|fail)
   all_goals refine hr _ _ rfl (ret_eq hk (congrArg intV ?_))
   all_goals clear hr hk
   all_goals (try simp only [show ∀ j,ns.getD j default=nd ns j from fun _=>rfl,Int.toNat_natCast] at *)
   all_goals simp_all [toldS]
 ·have h1:d≠-1:=h1
  obtain⟨dd,rfl⟩:∃ m:Nat,d=(m:Int):=⟨d.toNat,by omega⟩
  have hdd:dd<ns.length:=by omega
  simp only [Int.toNat_natCast] at hk
  conv=>whnf
  refine two_not (fun h3=>?_) (fun h3=>?_)
  ·have h3:(tx==[])=false:=h3
   conv=>whnf
   refine⟨ns,root,i,tx,rfl,st,hi,?_⟩
   conv=>whnf
   refine two_eq (fun h4=>?_) (fun h4=>?_)
   ·have h4:meansS ns root i tx=-1:=h4
    rw [if_pos (.inr ⟨by simpa using h3,h4⟩)] at hk
    conv=>whnf
    exact hr _ _ rfl hk
   have h4:meansS ns root i tx≠-1:=h4
   rw [if_neg (by rintro (⟨h,_⟩|⟨h,h'⟩);exact h1 h;exact h4 h'),if_neg h1] at hk
   conv=>whnf
   refine⟨⟨by omega,by omega,rfl⟩,?_⟩
   conv=>whnf
   refine two_ne (fun h5=>?_) (fun h5=>?_)
   ·have h5:(nd ns dd).n≠4:=h5
    rw [if_pos h5] at hk
    conv=>whnf
    exact hr _ _ rfl hk
   have h5:(nd ns dd).n=4:=h5
   rw [if_neg (not_not_intro h5)] at hk
   conv=>whnf
   conv=>whnf
   refine⟨⟨by omega,by show (1:Int)≤((r.length+1:Nat):Int);omega,Int.le_refl _,rfl⟩,?_⟩
   conv=>whnf
   refine⟨ns,root,r,[1],_,_,rfl,st,by simp only [List.length_cons] at hl;omega,fun q h=>hq q (List.mem_cons_of_mem _ h),by simp,.inr ⟨⟨nk,nn,na,tx,(j0:Int)::r⟩,_,rfl,rfl,fun i hi=>by obtain rfl:i=0:=(by simpa using hi);rfl⟩,?_⟩
   conv=>whnf
   repeat' (first|((first|refine two_eq ?_ ?_|refine two_ne ?_ ?_|refine two_not ?_ ?_|refine two_dec ?_ ?_|refine two_intro ?_ ?_)<;>intro h<;>conv=>whnf)|(refine⟨ns,root,i,tx,rfl,st,hi,?_⟩;conv=>whnf)|fail)
   all_goals refine hr _ _ rfl (ret_eq hk (congrArg intV ?_))
   all_goals clear hr hk
   all_goals (try simp only [show ∀ j,ns.getD j default=nd ns j from fun _=>rfl,Int.toNat_natCast] at *)
   all_goals simp_all [toldS]
  ·have h3:(tx==[])=true:=h3
   rw [if_neg (by rintro (⟨h,_⟩|⟨h,h'⟩);exact h1 h;exact absurd (by simpa using h3) h),if_neg h1] at hk
   conv=>whnf
   refine⟨⟨by omega,by omega,rfl⟩,?_⟩
   conv=>whnf
   refine two_ne (fun h5=>?_) (fun h5=>?_)
   ·have h5:(nd ns dd).n≠4:=h5
    rw [if_pos h5] at hk
    conv=>whnf
    exact hr _ _ rfl hk
   have h5:(nd ns dd).n=4:=h5
   rw [if_neg (not_not_intro h5)] at hk
   conv=>whnf
   conv=>whnf
   refine⟨⟨by omega,by show (1:Int)≤((r.length+1:Nat):Int);omega,Int.le_refl _,rfl⟩,?_⟩
   conv=>whnf
   refine⟨ns,root,r,[1],_,_,rfl,st,by simp only [List.length_cons] at hl;omega,fun q h=>hq q (List.mem_cons_of_mem _ h),by simp,.inr ⟨⟨nk,nn,na,tx,(j0:Int)::r⟩,_,rfl,rfl,fun i hi=>by obtain rfl:i=0:=(by simpa using hi);rfl⟩,?_⟩
   conv=>whnf
   repeat' (first|((first|refine two_eq ?_ ?_|refine two_ne ?_ ?_|refine two_not ?_ ?_|refine two_dec ?_ ?_|refine two_intro ?_ ?_)<;>intro h<;>conv=>whnf)|(refine⟨ns,root,i,tx,rfl,st,hi,?_⟩;conv=>whnf)|fail)
   all_goals refine hr _ _ rfl (ret_eq hk (congrArg intV ?_))
   all_goals clear hr hk
   all_goals (try simp only [show ∀ j,ns.getD j default=nd ns j from fun _=>rfl,Int.toNat_natCast] at *)
   all_goals simp_all [toldS]
set_option maxHeartbeats 4000000
def cAllF:AC:=fun args K k=>∃ ns root kind l n f,args=[scV ns root,.p (.sl 1 n f),intV kind]∧n=List.length l∧(∀ i,i<n→f i=kidF l i)∧Std ns root∧List.length l<1000000∧(∀ q∈l,InR ns q)∧k (.ret (.p (.bool (allS ns root l kind)))) K
theorem allF_ok:COk 100 cAllF:=by
 rintro args K k ⟨ns,root,kind,l,n,f,rfl,rfl,hf,st,hl,hq,hk⟩
 exact ACalls.pre (allS_ok _ K k ⟨ns,root,kind,l,rfl,st,hl,hq,hk⟩) (Wk.le ⟨AV.le_refl _,AV.sl_le rfl fun i hi=>(hf i hi).symm,AV.le_refl _,trivial⟩ (lesK.refl K))
def gCh:AG:=gput 55 cMeans (gput 47 cTProc (gput 113 cKind (gput 57 cTPlain (gput 59 cTy (gput 100 cAllF (gput 102 cOperands (gput 96 cTwice (gput 103 cCallS g0))))))))
theorem gCh_ok:GOk Tryz.prog gCh:=gput_ok means_ok (gput_ok proc_ok' (gput_ok kind_ok (gput_ok tplain_ok (gput_ok ty_ok (gput_ok allF_ok (gput_ok operands_ok (gput_ok twice_ok (gput_ok callS_ok g0_ok))))))))
def cCheckN:AC:=fun args K k=>∃ ns root i,args=[scV ns root,.p (.int .i64 ((i:Nat):Int))]∧RightT ns root∧i<ns.length∧k (.ret (intV (checkS ns root i))) K
theorem kids_cons {ns:List Nd} {root:Int} (rt:RightT ns root) {i:Nat} (hi:i<ns.length) (h:(nd ns i).k=7∨(nd ns i).k=10∨(nd ns i).k=11∨(nd ns i).k=12∨(nd ns i).k=13):∃ q r,(nd ns i).kids=q::r:=by
 have hs:=rt.shape i hi
 have hl:=kinds_len ns (nd ns i)
 cases hk:(nd ns i).kids with
 | cons q r=>exact⟨q,r,rfl⟩
 | nil =>
  rw [hk] at hl
  have hn:kindsS ns (nd ns i)=[]:=List.length_eq_zero_iff.1 hl
  rw [hn] at hs
  rcases h with h|h|h|h|h<;>rw [h] at hs<;>simp [ShapeOf] at hs
theorem checkN_ok:COk 46 cCheckN:=by
 rintro args K k ⟨ns,root,i,rfl,rt,hi,hk⟩
 have st:=rt.toStd
 have hlen:=st.len
 have hmany:=st.many i hi
 have hlk:(nd ns i).kids.length<1000000:=by omega
 have hqk:∀ q∈(nd ns i).kids,InR ns q:=fun q hq=>by have:=st.kid i hi q hq;exact⟨this.1,by have:=this.2.1;omega⟩
 refine frame0P gCh_ok 19 rfl fun Q hr=>?_
 have hnd:∀ j,ns.getD j default=nd ns j:=fun _=>rfl
 conv=>whnf
 refine⟨⟨by omega,by omega,rfl⟩,?_⟩
 have hc:(ns.getD ((i:Int)).toNat default).k=7∨(ns.getD ((i:Int)).toNat default).k=10∨(ns.getD ((i:Int)).toNat default).k=11∨(ns.getD ((i:Int)).toNat default).k=12∨(ns.getD ((i:Int)).toNat default).k=13→∃ q r,(nd ns i).kids=q::r:=kids_cons rt hi
 have hcc:(ns.getD ((i:Int)).toNat default).k=7∨(ns.getD ((i:Int)).toNat default).k=10∨(ns.getD ((i:Int)).toNat default).k=11∨(ns.getD ((i:Int)).toNat default).k=12∨(ns.getD ((i:Int)).toNat default).k=13→(nd ns i).kids=(nd ns i).kids.getD 0 0::(nd ns i).kids.tail:=fun h=>by
  obtain⟨q,r,e⟩:=hc h
  rw [e];rfl
 have hpos:(ns.getD ((i:Int)).toNat default).k=7∨(ns.getD ((i:Int)).toNat default).k=10∨(ns.getD ((i:Int)).toNat default).k=11∨(ns.getD ((i:Int)).toNat default).k=12∨(ns.getD ((i:Int)).toNat default).k=13→1≤(ns.getD ((i:Int)).toNat default).kids.length:=fun h=>by
  obtain⟨q,r,e⟩:=hc h
  show 1≤(nd ns i).kids.length
  rw [e];simp
 have hq0:1≤(ns.getD ((i:Int)).toNat default).kids.length→0≤(ns.getD ((i:Int)).toNat default).kids.getD (Int.toNat 0) 0∧(ns.getD ((i:Int)).toNat default).kids.getD (Int.toNat 0) 0<ns.length:=fun h=>by
  have h:0<(nd ns i).kids.length:=h
  show 0≤(nd ns i).kids.getD 0 0∧(nd ns i).kids.getD 0 0<ns.length
  have:=hqk ((nd ns i).kids.getD 0 0) (by simp [h])
  exact this
 have hown:(ns.getD ((i:Int)).toNat default).k=14→0≤own ns root ((i:Int)).toNat∧own ns root ((i:Int)).toNat<ns.length:=fun h=>by
  have h:(nd ns i).k=14:=h
  exact rt.owned _ i (Nat.le_refl _) hi (by omega) (by omega)
 have htl:∀ q∈(nd ns i).kids.tail,InR ns q:=fun q hq=>hqk q (List.mem_of_mem_tail hq)
 have htk:∀ q∈(nd ns i).kids.take 1,InR ns q:=fun q hq=>hqk q (List.mem_of_mem_take hq)
 have eTl:(ns.getD ((i:Int)).toNat default).kids.length - 1=(nd ns i).kids.tail.length:=by rw [List.length_tail];rfl
 have fTl:∀ j,kidF (nd ns i).kids (j+1)=kidF (nd ns i).kids.tail j:=fun j=>by simp [kidF,List.getD_eq_getElem?_getD]
 have eTk:1≤(ns.getD ((i:Int)).toNat default).kids.length→1=((nd ns i).kids.take 1).length:=fun h=>by
  have h:1≤(nd ns i).kids.length:=h
  rw [List.length_take];omega
 have fTk:∀ j,j<1→kidF (nd ns i).kids (j+0)=kidF ((nd ns i).kids.take 1) j:=fun j hj=>by
  obtain rfl:j=0:=by omega
  simp [kidF,List.getD_eq_getElem?_getD]
 conv=>whnf
 repeat' (first|((first|refine two_eq ?_ ?_|refine two_ne ?_ ?_|refine two_not ?_ ?_|refine two_dec ?_ ?_|refine two_intro ?_ ?_)<;>intro h<;>conv=>whnf)|((first|refine Chk.mk ?_ ?_|refine And.intro ?_ ?_);(focus (((repeat' (refine And.intro ?_ ?_))<;>(first|omega|rfl|(simp only [List.length_append,List.length_cons,List.length_nil];omega)|fail));done));conv=>whnf)|(refine And.intro ?_ ?_;(focus ((conv=>whnf);first|done|exact⟨⟨by omega,by omega,rfl⟩,by conv=>whnf⟩|fail));conv=>whnf)|(refine⟨ns,root,i,rfl,rt,hi,?_⟩;conv=>whnf)|(refine⟨ns,root,i,_,rfl,st,hi,?_⟩;conv=>whnf)|(refine⟨ns,root,_,(nd ns i).kids,_,_,rfl,rfl,fun _ _=>rfl,st,hlk,hqk,?_⟩;conv=>whnf)|(refine⟨ns,root,nd ns i,rfl,st,hlk,hqk,?_⟩;conv=>whnf)|(refine⟨ns,root,_,rfl,?_⟩;conv=>whnf)|fail)
 all_goals (try (
  refine hr _ _ rfl (ret_eq hk (congrArg intV ?_))
  clear hr hk hpos hq0 hc hcc hown
  (try simp only [hnd,Int.toNat_natCast] at *)
  clear hnd eTl fTl eTk fTk htl htk hqk hlk hmany hlen st rt
  (first|rw [ck2 (by assumption)]|rw [ck3 (by assumption)]|rw [ck4 (by assumption)]|rw [ck5 (by assumption)]|rw [ck22 (by assumption)]|rw [ck23 (by assumption)]|rw [ck8 (by assumption)]|rw [ck17 (by assumption)]|rw [ck24 (by assumption)]|rw [ck9 (by assumption)]|rw [ck16 (by assumption)]|rw [ck7 (by assumption)]|rw [ck25 (by assumption)]|rw [ck26 (by assumption)]|rw [ck27 (by assumption)]|rw [ck10 (by assumption)]|rw [ck15 (by assumption)]|rw [ck11 (by assumption)]|rw [ck12 (by assumption)]|rw [ck13 (by assumption)]|rw [ck14 (by assumption)]|rw [ckD (by assumption) (by assumption) (by assumption) (by assumption) (by assumption) (by assumption) (by assumption) (by assumption) (by assumption) (by assumption) (by assumption) (by assumption) (by assumption) (by assumption) (by assumption) (by assumption) (by assumption) (by assumption) (by assumption) (by assumption) (by assumption)]|fail)<;>(first|rfl|(simp_all [toldS,tnamedS];done))))
 ·have hp1:=hpos (.inl (by assumption))
  have hq:=hq0 hp1
  have e:((((nd ns i).kids.getD 0 0).toNat:Nat):Int)=(nd ns i).kids.getD 0 0:=Int.toNat_of_nonneg hq.1
  refine⟨ns,root,((nd ns i).kids.getD 0 0).toNat,by rw [e];rfl,st,by have h2:(nd ns i).kids.getD 0 0<ns.length:=hq.2;omega,?_⟩
  (conv=>whnf)
  clear hpos hq0 hc hcc hown
  repeat' (first|((first|refine two_eq ?_ ?_|refine two_ne ?_ ?_|refine two_not ?_ ?_|refine two_dec ?_ ?_|refine two_intro ?_ ?_)<;>intro h<;>conv=>whnf)|((first|refine Chk.mk ?_ ?_|refine And.intro ?_ ?_);(focus (((repeat' (refine And.intro ?_ ?_))<;>(first|omega|rfl|(simp only [List.length_append,List.length_cons,List.length_nil];omega)|fail));done));conv=>whnf)|(refine And.intro ?_ ?_;(focus ((conv=>whnf);first|done|exact⟨⟨by omega,by omega,rfl⟩,by conv=>whnf⟩|fail));conv=>whnf)|(refine⟨ns,root,i,rfl,rt,hi,?_⟩;conv=>whnf)|(refine⟨ns,root,i,_,rfl,st,hi,?_⟩;conv=>whnf)|(refine⟨ns,root,_,(nd ns i).kids,_,_,rfl,rfl,fun _ _=>rfl,st,hlk,hqk,?_⟩;conv=>whnf)|(refine⟨ns,root,nd ns i,rfl,st,hlk,hqk,?_⟩;conv=>whnf)|(refine⟨ns,root,_,rfl,?_⟩;conv=>whnf)|fail)
  all_goals refine hr _ _ rfl (ret_eq hk (congrArg intV ?_))
  all_goals clear hr hk
  all_goals (try simp only [hnd,Int.toNat_natCast] at *)
  all_goals clear hnd eTl fTl eTk fTk htl htk hqk hlk hmany hlen st rt
  all_goals (first|rw [ck2 (by assumption)]|rw [ck3 (by assumption)]|rw [ck4 (by assumption)]|rw [ck5 (by assumption)]|rw [ck22 (by assumption)]|rw [ck23 (by assumption)]|rw [ck8 (by assumption)]|rw [ck17 (by assumption)]|rw [ck24 (by assumption)]|rw [ck9 (by assumption)]|rw [ck16 (by assumption)]|rw [ck7 (by assumption)]|rw [ck25 (by assumption)]|rw [ck26 (by assumption)]|rw [ck27 (by assumption)]|rw [ck10 (by assumption)]|rw [ck15 (by assumption)]|rw [ck11 (by assumption)]|rw [ck12 (by assumption)]|rw [ck13 (by assumption)]|rw [ck14 (by assumption)]|rw [ckD (by assumption) (by assumption) (by assumption) (by assumption) (by assumption) (by assumption) (by assumption) (by assumption) (by assumption) (by assumption) (by assumption) (by assumption) (by assumption) (by assumption) (by assumption) (by assumption) (by assumption) (by assumption) (by assumption) (by assumption) (by assumption)]|fail)
  all_goals (first|rfl|(simp_all [toldS,tnamedS];done))
 ·have e1:=((procI_range ns (ns.getD ((i:Int)).toNat default).tx).resolve_left (by assumption)).1
  have e2:=((procI_range ns (ns.getD ((i:Int)).toNat default).tx).resolve_left (by assumption)).2.1
  have e1':(((procI ns (nd ns i).tx).toNat:Nat):Int)=procI ns (nd ns i).tx:=Int.toNat_of_nonneg e1
  refine⟨ns,root,(procI ns (nd ns i).tx).toNat,by rw [e1'];rfl,st,(Int.toNat_lt e1).2 e2,?_⟩
  (conv=>whnf)
  clear hpos hq0 hc hcc hown
  repeat' (first|((first|refine two_eq ?_ ?_|refine two_ne ?_ ?_|refine two_not ?_ ?_|refine two_dec ?_ ?_|refine two_intro ?_ ?_)<;>intro h<;>conv=>whnf)|((first|refine Chk.mk ?_ ?_|refine And.intro ?_ ?_);(focus (((repeat' (refine And.intro ?_ ?_))<;>(first|omega|rfl|(simp only [List.length_append,List.length_cons,List.length_nil];omega)|fail));done));conv=>whnf)|(refine And.intro ?_ ?_;(focus ((conv=>whnf);first|done|exact⟨⟨by omega,by omega,rfl⟩,by conv=>whnf⟩|fail));conv=>whnf)|(refine⟨ns,root,i,rfl,rt,hi,?_⟩;conv=>whnf)|(refine⟨ns,root,i,_,rfl,st,hi,?_⟩;conv=>whnf)|(refine⟨ns,root,_,(nd ns i).kids,_,_,rfl,rfl,fun _ _=>rfl,st,hlk,hqk,?_⟩;conv=>whnf)|(refine⟨ns,root,nd ns i,rfl,st,hlk,hqk,?_⟩;conv=>whnf)|(refine⟨ns,root,_,rfl,?_⟩;conv=>whnf)|fail)
  all_goals refine hr _ _ rfl (ret_eq hk (congrArg intV ?_))
  all_goals clear hr hk
  all_goals (try simp only [hnd,Int.toNat_natCast] at *)
  all_goals clear hnd eTl fTl eTk fTk htl htk hqk hlk hmany hlen st rt
  all_goals (first|rw [ck2 (by assumption)]|rw [ck3 (by assumption)]|rw [ck4 (by assumption)]|rw [ck5 (by assumption)]|rw [ck22 (by assumption)]|rw [ck23 (by assumption)]|rw [ck8 (by assumption)]|rw [ck17 (by assumption)]|rw [ck24 (by assumption)]|rw [ck9 (by assumption)]|rw [ck16 (by assumption)]|rw [ck7 (by assumption)]|rw [ck25 (by assumption)]|rw [ck26 (by assumption)]|rw [ck27 (by assumption)]|rw [ck10 (by assumption)]|rw [ck15 (by assumption)]|rw [ck11 (by assumption)]|rw [ck12 (by assumption)]|rw [ck13 (by assumption)]|rw [ck14 (by assumption)]|rw [ckD (by assumption) (by assumption) (by assumption) (by assumption) (by assumption) (by assumption) (by assumption) (by assumption) (by assumption) (by assumption) (by assumption) (by assumption) (by assumption) (by assumption) (by assumption) (by assumption) (by assumption) (by assumption) (by assumption) (by assumption) (by assumption)]|fail)
  all_goals (first|rfl|(simp_all [toldS,tnamedS];done))
 ·have hp1:=hpos (.inr (.inl (by assumption)))
  refine⟨⟨by decide,by show (1:Int)≤(((ns.getD ((i:Int)).toNat default).kids.length:Nat):Int);exact Int.ofNat_le.2 hp1,Int.le_refl _,rfl⟩,?_⟩
  (conv=>whnf)
  refine⟨ns,root,_,(nd ns i).kids.tail,_,_,rfl,eTl,fun j _=>fTl j,st,by rw [List.length_tail];exact Nat.lt_of_le_of_lt (Nat.sub_le _ _) hlk,htl,?_⟩
  (conv=>whnf)
  clear hpos hq0 hc hcc hown
  repeat' (first|((first|refine two_eq ?_ ?_|refine two_ne ?_ ?_|refine two_not ?_ ?_|refine two_dec ?_ ?_|refine two_intro ?_ ?_)<;>intro h<;>conv=>whnf)|((first|refine Chk.mk ?_ ?_|refine And.intro ?_ ?_);(focus (((repeat' (refine And.intro ?_ ?_))<;>(first|omega|rfl|(simp only [List.length_append,List.length_cons,List.length_nil];omega)|fail));done));conv=>whnf)|(refine And.intro ?_ ?_;(focus ((conv=>whnf);first|done|exact⟨⟨by omega,by omega,rfl⟩,by conv=>whnf⟩|fail));conv=>whnf)|(refine⟨ns,root,i,rfl,rt,hi,?_⟩;conv=>whnf)|(refine⟨ns,root,i,_,rfl,st,hi,?_⟩;conv=>whnf)|(refine⟨ns,root,_,(nd ns i).kids,_,_,rfl,rfl,fun _ _=>rfl,st,hlk,hqk,?_⟩;conv=>whnf)|(refine⟨ns,root,nd ns i,rfl,st,hlk,hqk,?_⟩;conv=>whnf)|(refine⟨ns,root,_,rfl,?_⟩;conv=>whnf)|fail)
  all_goals refine hr _ _ rfl (ret_eq hk (congrArg intV ?_))
  all_goals clear hr hk
  all_goals (try simp only [hnd,Int.toNat_natCast] at *)
  all_goals clear hnd eTl fTl eTk fTk htl htk hqk hlk hmany hlen st rt
  all_goals (first|rw [ck2 (by assumption)]|rw [ck3 (by assumption)]|rw [ck4 (by assumption)]|rw [ck5 (by assumption)]|rw [ck22 (by assumption)]|rw [ck23 (by assumption)]|rw [ck8 (by assumption)]|rw [ck17 (by assumption)]|rw [ck24 (by assumption)]|rw [ck9 (by assumption)]|rw [ck16 (by assumption)]|rw [ck7 (by assumption)]|rw [ck25 (by assumption)]|rw [ck26 (by assumption)]|rw [ck27 (by assumption)]|rw [ck10 (by assumption)]|rw [ck15 (by assumption)]|rw [ck11 (by assumption)]|rw [ck12 (by assumption)]|rw [ck13 (by assumption)]|rw [ck14 (by assumption)]|rw [ckD (by assumption) (by assumption) (by assumption) (by assumption) (by assumption) (by assumption) (by assumption) (by assumption) (by assumption) (by assumption) (by assumption) (by assumption) (by assumption) (by assumption) (by assumption) (by assumption) (by assumption) (by assumption) (by assumption) (by assumption) (by assumption)]|fail)
  all_goals (first|rfl|(simp_all [toldS,tnamedS];done))
 ·have hp1:=hpos (.inr (.inr (.inl (by assumption))))
  refine⟨⟨by decide,by decide,Int.ofNat_le.2 hp1,rfl⟩,?_⟩
  (conv=>whnf)
  refine⟨ns,root,_,(nd ns i).kids.take 1,_,_,rfl,eTk hp1,fun j hj=>fTk j hj,st,by rw [← eTk hp1];decide,htk,?_⟩
  (conv=>whnf)
  clear hpos hq0 hc hcc hown
  repeat' (first|((first|refine two_eq ?_ ?_|refine two_ne ?_ ?_|refine two_not ?_ ?_|refine two_dec ?_ ?_|refine two_intro ?_ ?_)<;>intro h<;>conv=>whnf)|((first|refine Chk.mk ?_ ?_|refine And.intro ?_ ?_);(focus (((repeat' (refine And.intro ?_ ?_))<;>(first|omega|rfl|(simp only [List.length_append,List.length_cons,List.length_nil];omega)|fail));done));conv=>whnf)|(refine And.intro ?_ ?_;(focus ((conv=>whnf);first|done|exact⟨⟨by omega,by omega,rfl⟩,by conv=>whnf⟩|fail));conv=>whnf)|(refine⟨ns,root,i,rfl,rt,hi,?_⟩;conv=>whnf)|(refine⟨ns,root,i,_,rfl,st,hi,?_⟩;conv=>whnf)|(refine⟨ns,root,_,(nd ns i).kids,_,_,rfl,rfl,fun _ _=>rfl,st,hlk,hqk,?_⟩;conv=>whnf)|(refine⟨ns,root,nd ns i,rfl,st,hlk,hqk,?_⟩;conv=>whnf)|(refine⟨ns,root,_,rfl,?_⟩;conv=>whnf)|fail)
  all_goals refine hr _ _ rfl (ret_eq hk (congrArg intV ?_))
  all_goals clear hr hk
  all_goals (try simp only [hnd,Int.toNat_natCast] at *)
  all_goals clear hnd eTl fTl eTk fTk htl htk hqk hlk hmany hlen st rt
  all_goals (first|rw [ck2 (by assumption)]|rw [ck3 (by assumption)]|rw [ck4 (by assumption)]|rw [ck5 (by assumption)]|rw [ck22 (by assumption)]|rw [ck23 (by assumption)]|rw [ck8 (by assumption)]|rw [ck17 (by assumption)]|rw [ck24 (by assumption)]|rw [ck9 (by assumption)]|rw [ck16 (by assumption)]|rw [ck7 (by assumption)]|rw [ck25 (by assumption)]|rw [ck26 (by assumption)]|rw [ck27 (by assumption)]|rw [ck10 (by assumption)]|rw [ck15 (by assumption)]|rw [ck11 (by assumption)]|rw [ck12 (by assumption)]|rw [ck13 (by assumption)]|rw [ck14 (by assumption)]|rw [ckD (by assumption) (by assumption) (by assumption) (by assumption) (by assumption) (by assumption) (by assumption) (by assumption) (by assumption) (by assumption) (by assumption) (by assumption) (by assumption) (by assumption) (by assumption) (by assumption) (by assumption) (by assumption) (by assumption) (by assumption) (by assumption)]|fail)
  all_goals (first|rfl|(simp_all [toldS,tnamedS];done))
 ·have hp1:=hpos (.inr (.inr (.inr (.inl (by assumption)))))
  refine⟨⟨by decide,by decide,Int.ofNat_le.2 hp1,rfl⟩,?_⟩
  (conv=>whnf)
  refine⟨ns,root,_,(nd ns i).kids.take 1,_,_,rfl,eTk hp1,fun j hj=>fTk j hj,st,by rw [← eTk hp1];decide,htk,?_⟩
  (conv=>whnf)
  clear hpos hq0 hc hcc hown
  repeat' (first|((first|refine two_eq ?_ ?_|refine two_ne ?_ ?_|refine two_not ?_ ?_|refine two_dec ?_ ?_|refine two_intro ?_ ?_)<;>intro h<;>conv=>whnf)|((first|refine Chk.mk ?_ ?_|refine And.intro ?_ ?_);(focus (((repeat' (refine And.intro ?_ ?_))<;>(first|omega|rfl|(simp only [List.length_append,List.length_cons,List.length_nil];omega)|fail));done));conv=>whnf)|(refine And.intro ?_ ?_;(focus ((conv=>whnf);first|done|exact⟨⟨by omega,by omega,rfl⟩,by conv=>whnf⟩|fail));conv=>whnf)|(refine⟨ns,root,i,rfl,rt,hi,?_⟩;conv=>whnf)|(refine⟨ns,root,i,_,rfl,st,hi,?_⟩;conv=>whnf)|(refine⟨ns,root,_,(nd ns i).kids,_,_,rfl,rfl,fun _ _=>rfl,st,hlk,hqk,?_⟩;conv=>whnf)|(refine⟨ns,root,nd ns i,rfl,st,hlk,hqk,?_⟩;conv=>whnf)|(refine⟨ns,root,_,rfl,?_⟩;conv=>whnf)|fail)
  all_goals refine hr _ _ rfl (ret_eq hk (congrArg intV ?_))
  all_goals clear hr hk
  all_goals (try simp only [hnd,Int.toNat_natCast] at *)
  all_goals clear hnd eTl fTl eTk fTk htl htk hqk hlk hmany hlen st rt
  all_goals (first|rw [ck2 (by assumption)]|rw [ck3 (by assumption)]|rw [ck4 (by assumption)]|rw [ck5 (by assumption)]|rw [ck22 (by assumption)]|rw [ck23 (by assumption)]|rw [ck8 (by assumption)]|rw [ck17 (by assumption)]|rw [ck24 (by assumption)]|rw [ck9 (by assumption)]|rw [ck16 (by assumption)]|rw [ck7 (by assumption)]|rw [ck25 (by assumption)]|rw [ck26 (by assumption)]|rw [ck27 (by assumption)]|rw [ck10 (by assumption)]|rw [ck15 (by assumption)]|rw [ck11 (by assumption)]|rw [ck12 (by assumption)]|rw [ck13 (by assumption)]|rw [ck14 (by assumption)]|rw [ckD (by assumption) (by assumption) (by assumption) (by assumption) (by assumption) (by assumption) (by assumption) (by assumption) (by assumption) (by assumption) (by assumption) (by assumption) (by assumption) (by assumption) (by assumption) (by assumption) (by assumption) (by assumption) (by assumption) (by assumption) (by assumption)]|fail)
  all_goals (first|rfl|(simp_all [toldS,tnamedS];done))
 ·have e:=hcc (.inr (.inr (.inr (.inr (by assumption)))))
  refine⟨ns,root,i,nd ns i,_,_,rfl,st,hi,e,hqk,hlk,?_⟩
  (conv=>whnf)
  clear hpos hq0 hc hcc hown
  repeat' (first|((first|refine two_eq ?_ ?_|refine two_ne ?_ ?_|refine two_not ?_ ?_|refine two_dec ?_ ?_|refine two_intro ?_ ?_)<;>intro h<;>conv=>whnf)|((first|refine Chk.mk ?_ ?_|refine And.intro ?_ ?_);(focus (((repeat' (refine And.intro ?_ ?_))<;>(first|omega|rfl|(simp only [List.length_append,List.length_cons,List.length_nil];omega)|fail));done));conv=>whnf)|(refine And.intro ?_ ?_;(focus ((conv=>whnf);first|done|exact⟨⟨by omega,by omega,rfl⟩,by conv=>whnf⟩|fail));conv=>whnf)|(refine⟨ns,root,i,rfl,rt,hi,?_⟩;conv=>whnf)|(refine⟨ns,root,i,_,rfl,st,hi,?_⟩;conv=>whnf)|(refine⟨ns,root,_,(nd ns i).kids,_,_,rfl,rfl,fun _ _=>rfl,st,hlk,hqk,?_⟩;conv=>whnf)|(refine⟨ns,root,nd ns i,rfl,st,hlk,hqk,?_⟩;conv=>whnf)|(refine⟨ns,root,_,rfl,?_⟩;conv=>whnf)|fail)
  all_goals refine hr _ _ rfl (ret_eq hk (congrArg intV ?_))
  all_goals clear hr hk
  all_goals (try simp only [hnd,Int.toNat_natCast] at *)
  all_goals clear hnd eTl fTl eTk fTk htl htk hqk hlk hmany hlen st rt
  all_goals (first|rw [ck2 (by assumption)]|rw [ck3 (by assumption)]|rw [ck4 (by assumption)]|rw [ck5 (by assumption)]|rw [ck22 (by assumption)]|rw [ck23 (by assumption)]|rw [ck8 (by assumption)]|rw [ck17 (by assumption)]|rw [ck24 (by assumption)]|rw [ck9 (by assumption)]|rw [ck16 (by assumption)]|rw [ck7 (by assumption)]|rw [ck25 (by assumption)]|rw [ck26 (by assumption)]|rw [ck27 (by assumption)]|rw [ck10 (by assumption)]|rw [ck15 (by assumption)]|rw [ck11 (by assumption)]|rw [ck12 (by assumption)]|rw [ck13 (by assumption)]|rw [ck14 (by assumption)]|rw [ckD (by assumption) (by assumption) (by assumption) (by assumption) (by assumption) (by assumption) (by assumption) (by assumption) (by assumption) (by assumption) (by assumption) (by assumption) (by assumption) (by assumption) (by assumption) (by assumption) (by assumption) (by assumption) (by assumption) (by assumption) (by assumption)]|fail)
  all_goals (first|rfl|(simp_all [toldS,tnamedS];done))
 all_goals
  have hz:∀ n:Nat,((n:Int)==0)=(n==0):=fun n=>by cases n<;>rfl
  refine hr _ _ rfl (ret_eq hk (congrArg intV ?_))
  clear hr hk hpos hq0 hc hcc hown
  simp only [hnd,Int.toNat_natCast,hz] at *
  clear hnd eTl fTl eTk fTk htl htk hqk hlk hmany hlen st rt hz
  rw [ck14 (by assumption)]
  simp_all [toldS]
end Go.Proofs.YtojjkleplnijaaaGreatDoor
namespace Go.AE
theorem fL_to {α:Type} {l:List α} {k:List α→Prop} (h:k l):fL l k:=(fL_eq l k).symm▸h
theorem fK_to {l:List ABlk} {k:List ABlk→Prop} (h:k l):fK l k:=(fK_eq l k).symm▸h
theorem fB_to {b:ABlk} {k:ABlk→Prop} (h:k b):fB b k:=(fB_eq b k).symm▸h
theorem nth_snoc {α:Type} (l:List α) (b:α):nth (snoc l b) (len l)=some b:=by
 induction l with
 | nil=>rfl
 | cons a l ih=>exact ih
theorem setN_snoc {α:Type} (l:List α) (b b':α):setN (snoc l b) (len l) b'=snoc l b':=by
 induction l with
 | nil=>rfl
 | cons a l ih=>simp only [snoc,len,setN];rw [ih]
theorem nth_setsnoc {α:Type} (l:List α) (b b':α):nth (setN (snoc l b) (len l) b') (len l)=some b':=by rw [setN_snoc,nth_snoc]
theorem snoc_app {α:Type} (l:List α) (b:α):snoc l b=l++[b]:=by
 induction l with
 | nil=>rfl
 | cons a l ih=>simp only [snoc,ih,List.cons_append]
theorem len_snoc {α:Type} (l:List α) (b:α):len (snoc l b)=len l+1:=by rw [snoc_app,len_length,len_length];simp
theorem len_setN {α:Type} (l:List α) (r:Nat) (b:α):len (setN l r b)=len l:=by
 induction l generalizing r with
 | nil=>rfl
 | cons a l ih=>cases r<;>simp [setN,len,ih]
theorem length_snoc {α:Type} (l:List α) (b:α):(snoc l b).length=l.length+1:=by rw [← len_length,len_snoc,len_length]
theorem length_setN {α:Type} (l:List α) (r:Nat) (b:α):(setN l r b).length=l.length:=by rw [← len_length,len_setN,len_length]
theorem lesK_eq {K K':List ABlk} (h:K=K'):lesK K K':=h▸lesK.refl K
end Go.AE
namespace Go.Proofs.YtojjkleplnijaaaGreatDoor
open Go.AE Go.Ru
set_option maxRecDepth 100000
set_option maxHeartbeats 1000000
def strG (f:Bs→Option Nat) (κ:MK):Option AV:=match κ with
 | .s l=>match f l with
  | some j=>some (intV (j:Int))
  | none=>none
 | .i _ _=>none
def insF (f:Bs→Option Nat) (name:Bs) (i:Nat) (l:Bs):Option Nat:=match f l with
 | some j=>some j
 | none=>if l=name then some i else none
theorem strG_ins {f:Bs→Option Nat} {name:Bs} {i:Nat} (h:f name=none):insM (strG f) (.s name) (intV (i:Int))=strG (insF f name i):=by
 funext κ
 cases κ with
 | i q n=>simp [insM,strG]
 | s l =>
  by_cases e:l=name
  ·subst e;simp [insM,strG,insF,h]
  ·have:(MK.s l)≠MK.s name:=fun h=>e (by injection h)
   simp only [insM,this,if_false,strG,insF,e]
   cases f l<;>rfl
theorem insF_old {f:Bs→Option Nat} {name:Bs} {i j:Nat} (h:f name=some j):insF f name i=f:=by
 funext l
 unfold insF
 cases hl:f l with
 | some j=>rfl
 | none =>
  by_cases e:l=name
  ·subst e;rw [h] at hl;cases hl
  ·simp [e]
def cFirst:AC:=fun args K k=>∃ r name i f,args=[.mref r,.p (.str name),intV ((i:Nat):Int)]∧nth K r=some (.mp .str (strG f) [])∧k (.ret (.tup [])) (setN K r (.mp .str (strG (insF f name i)) []))
theorem setN_same {α:Type} {l:List α} {r:Nat} {b:α} (h:nth l r=some b):setN l r b=l:=by
 induction l generalizing r with
 | nil=>rfl
 | cons a l ih =>
  cases r with
  | zero=>simp only [nth,Option.some.injEq] at h;subst h;rfl
  | succ r=>simp only [setN,ih h]
theorem first_ok:COk 93 cFirst:=by
 rintro args K k ⟨r,name,i,f,rfl,hg,hk⟩
 refine call_ok g0_ok 19 _ _ _ _ ?_
 conv=>whnf
 ((first|refine fK_to ?_|refine fL_to ?_|refine fB_to ?_);conv=>whnf)
 rw [hg]
 conv=>whnf
 refine⟨fun a ha=>?_,fun hn=>?_⟩
 ·cases hf:f name with
  | none=>simp [strG,hf] at ha
  | some j =>
   have ha:a=intV (j:Int):=by simpa [strG,hf] using ha.symm
   subst ha
   rw [insF_old hf,setN_same hg] at hk
   conv=>whnf
   ((first|refine fK_to ?_|refine fL_to ?_|refine fB_to ?_);conv=>whnf)
   exact hk
 ·cases hf:f name with
  | some j=>simp [strG,hf] at hn
  | none =>
   rw [← strG_ins hf] at hk
   conv=>whnf
   rw [hg]
   conv=>whnf
   ((first|refine fK_to ?_|refine fL_to ?_|refine fB_to ?_);conv=>whnf)
   ((first|refine fK_to ?_|refine fL_to ?_|refine fB_to ?_);conv=>whnf)
   exact hk
structure TLC where
 i:Nat
 f:Nat→Int
 l:Int→Option Nat
 X:List ABlk
def locG (l:Int→Option Nat) (κ:MK):Option AV:=match κ with
 | .i q o=>if q=.i64 then (match l o with
  | some r=>some (.mref (r+6))
  | none=>none) else none
 | .s _=>none
theorem locG_ins {l:Int→Option Nat} {o:Int} {r:Nat}:insM (locG l) (.i .i64 o) (.mref (r+6))=locG (fun o'=>if o'=o then some r else l o'):=by
 funext κ
 cases κ with
 | s l=>simp [insM,locG]
 | i q o' =>
  unfold insM locG
  by_cases hq:q=.i64
  ·subst hq
   by_cases ho:o'=o
   ·subst ho;simp
   ·have:(MK.i .i64 o')≠MK.i .i64 o:=fun h=>ho (by injection h)
    simp only [this,ho,if_false,if_true]
  ·have:(MK.i q o')≠MK.i .i64 o:=fun h=>hq (by injection h)
   simp only [this,hq,if_false]
theorem nth_left {α:Type} {l m:List α} {r:Nat} {b:α} (h:nth l r=some b):nth (l++m) r=some b:=by
 induction l generalizing r with
 | nil=>simp [nth] at h
 | cons a l ih =>
  cases r with
  | zero=>exact h
  | succ r=>exact ih h
theorem nth_right {α:Type} (l m:List α) (r:Nat):nth (l++m) (l.length+r)=nth m r:=by
 induction l with
 | nil=>simp
 | cons a l ih=>rw [List.length_cons,show l.length+1+r=(l.length+r)+1 by omega];exact ih
structure LcOk (ns:List Nd) (root:Int) (g:Int→Bs→Option Nat) (c:TLC):Prop where
 le:c.i≤ns.length
 ow:∀ j,j<ns.length→c.f j=if c.i≤j then own ns root j else 0
 dom:∀ o,(c.l o).isSome=(isProcB ns o&&decide ((c.i:Int)≤o))
 at_:∀ o r,c.l o=some r→nth c.X r=some (.mp .str (strG (g o)) [])
 inj:∀ o o' r,c.l o=some r→c.l o'=some r→o=o'
theorem LcOk.step {ns:List Nd} {root:Int} {g:Int→Bs→Option Nat} {i:Nat} {f:Nat→Int} {l:Int→Option Nat} {X Y:List ABlk} (h:LcOk ns root g ⟨i+1,f,l,X⟩) (hk:(nd ns i).k≠3) :
  LcOk ns root g ⟨i,setF f i (own ns root i),l,X++Y⟩:=by
 have hle:=h.le
 simp only at hle
 refine⟨by show i≤_;omega,fun j hj=>?_,fun o=>?_,fun o r ho=>nth_left (h.at_ o r ho),h.inj⟩
 ·have:=h.ow j hj
  simp only [setF] at this ⊢
  by_cases e:j=i
  ·subst e;simp
  ·rw [if_neg e,this]
   by_cases h2:i+1≤j
   ·rw [if_pos h2,if_pos (by omega)]
   ·rw [if_neg h2,if_neg (by omega)]
 ·have:=h.dom o
  simp only at this ⊢
  rw [this]
  by_cases e:o=(i:Int)
  ·subst e
   have:isProcB ns (i:Int)=false:=by simp [isProcB,hk]
   rw [this,Bool.false_and,Bool.false_and]
  ·congr 1
   exact decide_eq_decide.2 (by omega)
theorem LcOk.stepP {ns:List Nd} {root:Int} {i:Nat} {f:Nat→Int} {l:Int→Option Nat} {X:List ABlk} {b:ABlk} (st:Std ns root) (h:LcOk ns root (fun _ _=>none) ⟨i+1,f,l,X⟩) (hk:(nd ns i).k=3) (hb:∀ o r,l o=some r→r<X.length) :
  LcOk ns root (fun _ _=>none) ⟨i,setF f i (i:Int),fun o'=>if o'=(i:Int) then some (X.length+1) else l o',X++[b,.mp .str (strG fun _=>none) []]⟩:=by
 have hle:=h.le
 simp only at hle
 refine⟨by show i≤_;omega,fun j hj=>?_,fun o=>?_,fun o r ho=>?_,fun o o' r ho ho'=>?_⟩
 ·have:=h.ow j hj
  simp only [setF] at this ⊢
  by_cases e:j=i
  ·subst e
   rw [if_pos rfl,if_pos (Nat.le_refl _),own_eq st (by omega),if_pos hk]
  ·rw [if_neg e,this]
   by_cases h2:i+1≤j
   ·rw [if_pos h2,if_pos (by omega)]
   ·rw [if_neg h2,if_neg (by omega)]
 ·simp only
  by_cases e:o=(i:Int)
  ·subst e
   have:isProcB ns (i:Int)=true:=by simp [isProcB,hk];omega
   simp [this]
  ·rw [if_neg e]
   have:=h.dom o
   simp only at this
   rw [this]
   congr 1
   exact decide_eq_decide.2 (by omega)
 ·simp only at ho ⊢
  by_cases e:o=(i:Int)
  ·rw [if_pos e] at ho
   injection ho with ho
   subst ho
   exact nth_right X _ 1
  ·rw [if_neg e] at ho
   exact nth_left (h.at_ o r ho)
 ·simp only at ho ho'
  by_cases e:o=(i:Int)<;>by_cases e':o'=(i:Int)
  ·rw [e,e']
  ·rw [if_pos e] at ho;rw [if_neg e'] at ho'
   injection ho with ho
   have:=hb _ _ ho'
   omega
  ·rw [if_neg e] at ho;rw [if_pos e'] at ho'
   injection ho' with ho'
   have:=hb _ _ ho
   omega
  ·rw [if_neg e] at ho;rw [if_neg e'] at ho'
   exact h.inj o o' r ho ho'
def lrK (ns:List Nd) (root:Int) (gs ps:Bs→Option Nat) (c:TLC):List ABlk :=
 [.box 24 [.p (.sl 5 ns.length (nodeF ns)),.p (.int .i64 root)],.mp .str (strG gs) [],.mp .str (strG ps) [],.mp (.int .i64) (locG c.l) [],
  .box 72 [.p (.sl 5 ns.length (nodeF ns)),.p (.int .i64 root),.slr 5 0 0 ns.length,.mref 1,.mref 2,.mref 3],rowA ns.length c.f]++c.X
theorem strG0:ABlk.mp .str (fun _=>none) []=.mp .str (strG fun _=>none) []:=by
 congr 1
 funext κ
 cases κ<;>rfl
theorem locG0:ABlk.mp (.int .i64) (fun _=>none) []=.mp (.int .i64) (locG fun _=>none) []:=by
 congr 1
 funext κ
 cases κ<;>simp [locG]
theorem glob_step {ns:List Nd} {j:Nat} (h:(nd ns j).k=2):(fun n=>firstB (globP ns n) (j+1))=insF (fun n=>firstB (globP ns n) j) (nd ns j).tx j:=by
 funext n
 simp only [firstB,insF,globP,h,beq_self_eq_true,Bool.true_and]
 cases firstB (globP ns n) j with
 | some _=>rfl
 | none =>
  by_cases e:(nd ns j).tx=n
  ·subst e;simp
  ·rw [beq_eq_false_iff_ne.2 e,if_neg (fun h=>e h.symm)]
theorem glob_same {ns:List Nd} {j:Nat} (h:(nd ns j).k≠2):(fun n=>firstB (globP ns n) (j+1))=fun n=>firstB (globP ns n) j:=by
 funext n
 simp only [firstB,globP,beq_eq_false_iff_ne.2 h,Bool.false_and]
 cases firstB (globP ns n) j<;>rfl
theorem proc_step {ns:List Nd} {j:Nat} (h:(nd ns j).k=3):(fun n=>firstB (procP ns n) (j+1))=insF (fun n=>firstB (procP ns n) j) (nd ns j).tx j:=by
 funext n
 simp only [firstB,insF,procP,h,beq_self_eq_true,Bool.true_and]
 cases firstB (procP ns n) j with
 | some _=>rfl
 | none =>
  by_cases e:(nd ns j).tx=n
  ·subst e;simp
  ·rw [beq_eq_false_iff_ne.2 e,if_neg (fun h=>e h.symm)]
theorem proc_same {ns:List Nd} {j:Nat} (h:(nd ns j).k≠3):(fun n=>firstB (procP ns n) (j+1))=fun n=>firstB (procP ns n) j:=by
 funext n
 simp only [firstB,procP,beq_eq_false_iff_ne.2 h,Bool.false_and]
 cases firstB (procP ns n) j<;>rfl
theorem loc_step {ns:List Nd} {root:Int} {j:Nat} (h:(nd ns j).k=4∨(nd ns j).k=5):(fun n=>firstB (locP ns root (own ns root j) n) (j+1))=insF (fun n=>firstB (locP ns root (own ns root j) n) j) (nd ns j).tx j:=by
 funext n
 have h':((nd ns j).k==4 || (nd ns j).k==5)=true:=by rcases h with h|h<;>simp [h]
 simp only [firstB,insF,locP,h',beq_self_eq_true,Bool.true_and]
 cases firstB (locP ns root (own ns root j) n) j with
 | some _=>rfl
 | none =>
  by_cases e:(nd ns j).tx=n
  ·subst e;simp
  ·rw [beq_eq_false_iff_ne.2 e,if_neg (fun h=>e h.symm)]
theorem loc_same {ns:List Nd} {root o:Int} {j:Nat} (h:o≠own ns root j∨((nd ns j).k≠4∧(nd ns j).k≠5)):(fun n=>firstB (locP ns root o n) (j+1))=fun n=>firstB (locP ns root o n) j:=by
 funext n
 have:locP ns root o n j=false:=by
  unfold locP
  rcases h with h|⟨h,h'⟩
  ·rw [beq_eq_false_iff_ne.2 (Ne.symm h),Bool.false_and,Bool.and_false]
  ·rw [beq_eq_false_iff_ne.2 h,beq_eq_false_iff_ne.2 h',Bool.or_self,Bool.false_and]
 simp only [firstB,this]
 cases firstB (locP ns root o n) j<;>rfl
def stG (ns:List Nd) (j:Nat) (n:Bs):Option Nat:=firstB (globP ns n) j
def stP (ns:List Nd) (j:Nat) (n:Bs):Option Nat:=firstB (procP ns n) j
def stL (ns:List Nd) (root:Int) (j:Nat) (o:Int) (n:Bs):Option Nat:=firstB (locP ns root o n) j
structure L2 where
 j:Nat
 X:List ABlk
theorem LcOk.left {ns:List Nd} {root:Int} {g:Int→Bs→Option Nat} {i:Nat} {f:Nat→Int} {l:Int→Option Nat} {X Y:List ABlk} (h:LcOk ns root g ⟨i,f,l,X⟩):LcOk ns root g ⟨i,f,l,X++Y⟩ :=
 ⟨h.le,h.ow,h.dom,fun o r ho=>nth_left (h.at_ o r ho),h.inj⟩
theorem LcOk.same {ns:List Nd} {root:Int} {j:Nat} {f:Nat→Int} {l:Int→Option Nat} {X Y:List ABlk} (h:LcOk ns root (stL ns root j) ⟨0,f,l,X⟩) (hk:(nd ns j).k≠4∧(nd ns j).k≠5):LcOk ns root (stL ns root (j+1)) ⟨0,f,l,X++Y⟩ :=
 ⟨h.le,h.ow,h.dom,fun o r ho=>by rw [show stL ns root (j+1) o=stL ns root j o from loc_same (.inr hk)];exact nth_left (h.at_ o r ho),h.inj⟩
theorem nth_setN_eq {α:Type} {l:List α} {r:Nat} {b b':α} (h:nth l r=some b):nth (setN l r b') r=some b':=by
 induction l generalizing r with
 | nil=>simp [nth] at h
 | cons a l ih =>
  cases r with
  | zero=>rfl
  | succ r=>exact ih h
theorem nth_setN_ne {α:Type} {l:List α} {r r':Nat} {b:α} (h:r'≠r):nth (setN l r b) r'=nth l r':=by
 induction l generalizing r r' with
 | nil=>rfl
 | cons a l ih =>
  cases r with
  | zero=>cases r' with
   | zero=>exact absurd rfl h
   | succ r'=>rfl
  | succ r=>cases r' with
   | zero=>rfl
   | succ r'=>exact ih (by omega)
theorem LcOk.local {ns:List Nd} {root:Int} {j r:Nat} {f:Nat→Int} {l:Int→Option Nat} {X:List ABlk} (h:LcOk ns root (stL ns root j) ⟨0,f,l,X⟩) (hk:(nd ns j).k=4∨(nd ns j).k=5) (hr:l (own ns root j)=some r) :
  LcOk ns root (stL ns root (j+1)) ⟨0,f,l,setN X r (.mp .str (strG (insF (stL ns root j (own ns root j)) (nd ns j).tx j)) [])⟩:=by
 refine⟨h.le,h.ow,h.dom,fun o r' ho=>?_,h.inj⟩
 by_cases e:o=own ns root j
 ·subst e
  have:r'=r:=by have:=hr.symm.trans ho;injection this with this;exact this.symm
  subst this
  rw [show stL ns root (j+1) (own ns root j)=insF (stL ns root j (own ns root j)) (nd ns j).tx j from loc_step hk]
  exact nth_setN_eq (h.at_ _ _ ho)
 ·rw [show stL ns root (j+1) o=stL ns root j o from loc_same (.inl e)]
  have:r'≠r:=fun e2=>by subst e2;exact e (h.inj _ _ _ ho hr)
  rw [nth_setN_ne this]
  exact h.at_ _ _ ho
theorem fz_strG {K:List ABlk} {r:Nat} {f:Bs→Option Nat} (h:nth K r=some (.mp .str (strG f) [])):Fz K (.mref r) (.mp .str (strM f)):=by
 refine .mp r .str (strG f) [] (strM f) h (fun κ hk=>?_) (fun κ a p hk ha hp=>?_)
 ·cases κ with
  | i q n=>simp [MK.kt] at hk
  | s l=>simp only [strG,strM];cases f l<;>simp
 ·cases κ with
  | i q n=>simp [MK.kt] at hk
  | s l =>
   simp only [strG] at ha
   simp only [strM] at hp
   cases hf:f l with
   | none=>rw [hf] at ha;cases ha
   | some j =>
    rw [hf] at ha hp
    injection ha with ha
    injection hp with hp
    subst ha hp
    exact .p _
theorem lr_fz {ns:List Nd} {root:Int} {f:Nat→Int} {l:Int→Option Nat} {X:List ABlk} (st:Std ns root) (ok:LcOk ns root (stL ns root ns.length) ⟨0,f,l,X⟩) :
  FzV (lrK ns root (stG ns ns.length) (stP ns ns.length) ⟨0,f,l,X⟩) (.ptr 4 0 1 0 0) (scV ns root):=by
 refine .box 4 72 0 _ (scC ns root) rfl rfl fun j hj hj'=>?_
 rcases j with _|_|_|_|_|_|j
 ·exact .p _
 ·exact .p _
 ·refine .sl 5 3 1 0 ns.length 0 ns.length _ _ rfl (Nat.zero_add _) (fun i hi=>rfl) fun i hi j hj hj'=>?_
  obtain rfl:j=0:=by simpa [rowF] using hj'
  have:=ok.ow i hi
  simp only at this
  rw [if_pos (Nat.zero_le _)] at this
  show Fz _ (.p (.int .i64 (f (0+i)))) (.int .i64 (own ns root i))
  rw [Nat.zero_add,this]
  exact .p _
 ·exact fz_strG rfl
 ·exact fz_strG rfl
 ·refine .mp 3 (.int .i64) (locG l) [] (locM ns root) rfl (fun κ hk=>?_) (fun κ a p hk ha hp=>?_)
  ·cases κ with
   | s l=>simp [MK.kt] at hk
   | i q o =>
    have hq:q=.i64:=by simpa [MK.kt] using hk
    subst hq
    have:=ok.dom o
    simp only at this
    simp only [locG,locM,if_true]
    cases hl:l o with
    | none =>
     rw [hl] at this
     cases hb:isProcB ns o with
     | false=>simp
     | true =>
      have h0:0≤o:=by simp only [isProcB,Bool.and_eq_true,decide_eq_true_eq] at hb;exact hb.1
      simp [hb,h0] at this
    | some r =>
     rw [hl] at this
     cases hb:isProcB ns o with
     | true=>simp
     | false=>simp [hb] at this
  ·cases κ with
   | s l=>simp [MK.kt] at hk
   | i q o =>
    have hq:q=.i64:=by simpa [MK.kt] using hk
    subst hq
    simp only [locG,if_true] at ha
    simp only [locM] at hp
    cases hl:l o with
    | none=>rw [hl] at ha;cases ha
    | some r =>
     rw [hl] at ha
     injection ha with ha
     subst ha
     cases hb:isProcB ns o with
     | false=>rw [hb] at hp;cases hp
     | true =>
      rw [hb] at hp
      injection hp with hp
      subst hp
      exact fz_strG (ok.at_ o r hl)
 ·simp at hj;omega
def gPar:AG:=gput 92 cParents (gput 93 cFirst g0)
theorem gPar_ok:GOk Tryz.prog gPar:=gput_ok parents_ok (gput_ok first_ok g0_ok)
def cLearn:AC:=fun args K k=>∃ ns root,args=[treeV ns root]∧RightT ns root∧k (.ret (scV ns root)) K
theorem learn_ok:COk 45 cLearn:=by
 rintro args K k ⟨ns,root,rfl,rt,hk⟩
 have st:=rt.toStd
 have hlen:=st.len
 have hpos:=st.pos
 have hrt:=st.rt
 have hsd:soundS ns root=true:=by have:=rt.ok;simp only [rightS,Bool.and_eq_true] at this;exact this.1.1.1
 refine frame0W gPar_ok 19 rfl fun Q hr=>?_
 conv=>whnf
 refine⟨ns,root,rfl,by omega,?_⟩
 simp only [parV,hsd]
 conv=>whnf
 refine⟨⟨by omega,by omega,by omega,?_⟩,?_⟩
 ·show (8:Int)*(ns.length:Int)≤140737488355328
  omega
 conv=>whnf
 refine loop_by (ι:=TLC) (fun c=>⟨[(1,.ptr 0 0 1 0 0),(2,.p .nilp),(3,.ptr 4 0 1 0 0),(4,.p (.sl 1 ns.length (rowF (parF ns root)))),(5,intV ((c.i:Int) - 1))],lrK ns root (fun _=>none) (fun _=>none) c⟩)
  (LcOk ns root (fun _ _=>none)) (fun c=>c.i) ⟨ns.length,fun _=>0,fun _=>none,[]⟩ ⟨AV.le_refl _,AV.le_refl _,AV.le_refl _,AV.le_refl _,AV.le_of_eq (congrArg intV (by omega)),trivial⟩ ?_ ?_ ?_
 ·(conv=>whnf)
  refine⟨ABlk.le_refl _,?_⟩
  (conv=>whnf)
  refine⟨ABlk.le_of_eq strG0,?_⟩
  (conv=>whnf)
  refine⟨ABlk.le_of_eq strG0,?_⟩
  (conv=>whnf)
  refine⟨ABlk.le_of_eq locG0,?_⟩
  (conv=>whnf)
  refine⟨ABlk.le_refl _,?_⟩
  (conv=>whnf)
  refine⟨ABlk.arr_eq rfl fun _ _=>rfl,?_⟩
  exact trivial
 ·refine⟨Nat.le_refl _,fun j hj=>by rw [if_neg (by show ¬ ns.length≤j;omega)],fun o=>?_,fun o r h=>(by cases h),fun o o' r h=>(by cases h)⟩
  simp only [isProcB,Option.isSome_none]
  by_cases h:o<ns.length
  ·rw [show decide ((ns.length:Int)≤o)=false from decide_eq_false (by omega),Bool.and_false]
  ·rw [show decide (o<(ns.length:Int))=false from decide_eq_false h,Bool.false_and,Bool.and_false,Bool.false_and]
 ·rintro Y hle ⟨i,f,l,X⟩ ok ih
  simp only [lrK]
  conv=>whnf
  refine two_dec (fun h=>?_) (fun h=>?_)
  ·have h:0<i:=by have h:(i:Int) - 1≥0:=h;omega
   obtain⟨i,rfl⟩:∃ m,i=m+1:=⟨i - 1,by omega⟩
   have e0:(((i+1:Nat):Int) - 1)=(i:Int):=by omega
   have hi:=ok.le
   simp only at hi
   have hw1:IntKind.i64.wrap ((i:Int) - 1)=(i:Int) - 1:=w64 ⟨by omega,by omega⟩
   rw [e0]
   conv=>whnf
   refine⟨⟨by omega,by omega,rfl⟩,?_⟩
   conv=>whnf
   ((first|refine fK_to ?_|refine fL_to ?_|refine fB_to ?_);conv=>whnf)
   conv in (nth _ _)=>tactic=>exact nth_snoc (lrK ns root (fun _=>none) (fun _=>none) ⟨i+1,f,l,X⟩) _
   conv=>whnf
   ((first|refine fK_to ?_|refine fL_to ?_|refine fB_to ?_);conv=>whnf)
   conv in (nth _ _)=>tactic=>exact nth_setsnoc (lrK ns root (fun _=>none) (fun _=>none) ⟨i+1,f,l,X⟩) _ _
   conv=>whnf
   refine two_eq (fun h3=>?_) (fun h3=>?_)
   ·have h3:(nd ns i).k=3:=h3
    conv=>whnf
    refine⟨⟨rfl,Nat.zero_add _,by omega,by omega,rfl⟩,?_⟩
    conv=>whnf
    refine⟨⟨rfl,rfl⟩,?_⟩
    conv=>whnf
    ((first|refine fK_to ?_|refine fL_to ?_|refine fB_to ?_);conv=>whnf)
    ((first|refine fK_to ?_|refine fL_to ?_|refine fB_to ?_);conv=>whnf)
    ((first|refine fK_to ?_|refine fL_to ?_|refine fB_to ?_);conv=>whnf)
    refine hle _ _ (Le.env ?_ ?_) (ih ⟨i,setF f i (i:Int),fun o'=>if o'=(i:Int) then some (X.length+1) else l o',X++[nodeB (nd ns i),.mp .str (strG fun _=>none) []]⟩ (Nat.lt_succ_self i) (ok.stepP st h3 fun o r ho=>nth_lt (ok.at_ o r ho)))
    ·skip
     repeat' (first|exact trivial|((conv=>whnf);first|exact trivial|refine⟨AV.le_refl _,?_⟩|refine⟨ABlk.le_refl _,?_⟩|(refine⟨AV.le_of_eq ?_,?_⟩;focus ((first|exact congrArg intV hw1|fail);done))|(refine⟨ABlk.le_of_eq ?_,?_⟩;focus ((first|exact congrArg intV hw1|fail);done))|fail)|fail)
    ·(conv=>whnf)
     refine⟨ABlk.le_refl _,?_⟩
     (conv=>whnf)
     refine⟨ABlk.le_refl _,?_⟩
     (conv=>whnf)
     refine⟨ABlk.le_refl _,?_⟩
     (conv=>whnf)
     refine⟨ABlk.le_of_eq (congrArg (fun g=>ABlk.mp (.int .i64) g []) (Eq.trans (congrArg (insM (locG l) (.i .i64 (i:Int))) (a₂:=AV.mref (X.length+1+6)) ?_) locG_ins)),?_⟩
     ·(conv=>lhs;whnf)
      refine congrArg AV.mref ?_
      dsimp only
      simp only [len_length,length_setN,length_snoc,List.append_eq,List.nil_append,List.length_cons,List.length_nil]
     (conv=>whnf)
     refine⟨ABlk.le_refl _,?_⟩
     (conv=>whnf)
     refine⟨rowA_set rfl (Nat.zero_add _) (fun _ _=>rfl),?_⟩
     refine lesK_eq ?_
     show snoc (setN (snoc X _) (len X) _) _=X++_
     rw [setN_snoc,snoc_app,snoc_app,List.append_assoc,strG0]
     rfl
   ·have h3:(nd ns i).k≠3:=h3
    conv=>whnf
    refine two_eq (fun h4=>?_) (fun h4=>?_)
    ·have h4:(i:Int)=root:=h4
     conv=>whnf
     refine⟨⟨rfl,Nat.zero_add _,by omega,by omega,rfl⟩,?_⟩
     conv=>whnf
     refine⟨⟨rfl,rfl⟩,?_⟩
     conv=>whnf
     ((first|refine fK_to ?_|refine fL_to ?_|refine fB_to ?_);conv=>whnf)
     have ho:own ns root i=-1:=by rw [own_eq st (by omega),if_neg h3,if_pos h4]
     refine hle _ _ (Le.env ?_ ?_) (ih ⟨i,setF f i (own ns root i),l,X++[nodeB (nd ns i)]⟩ (Nat.lt_succ_self i) (ok.step h3))
     ·skip
      repeat' (first|exact trivial|((conv=>whnf);first|exact trivial|refine⟨AV.le_refl _,?_⟩|refine⟨ABlk.le_refl _,?_⟩|(refine⟨AV.le_of_eq ?_,?_⟩;focus ((first|exact congrArg intV hw1|fail);done))|(refine⟨ABlk.le_of_eq ?_,?_⟩;focus ((first|exact congrArg intV hw1|fail);done))|fail)|fail)
     ·rw [ho]
      (conv=>whnf)
      refine⟨ABlk.le_refl _,?_⟩
      (conv=>whnf)
      refine⟨ABlk.le_refl _,?_⟩
      (conv=>whnf)
      refine⟨ABlk.le_refl _,?_⟩
      (conv=>whnf)
      refine⟨ABlk.le_refl _,?_⟩
      (conv=>whnf)
      refine⟨ABlk.le_refl _,?_⟩
      (conv=>whnf)
      refine⟨rowA_set (rfl) (Nat.zero_add _) (fun _ _=>rfl),?_⟩
      exact lesK_eq ((setN_snoc X _ _).trans (snoc_app X _))
    ·have h4:(i:Int)≠root:=h4
     obtain⟨p,p1,p2,_,p4⟩:=st.par_up i (by omega)
     have p5:parF ns root ((i:Int)).toNat=(p:Int):=p4
     have hf:f p=own ns root p:=by
      have:=ok.ow p p2
      simp only at this
      rw [this,if_pos (by omega)]
     have ho:own ns root i=own ns root p:=by rw [own_eq st (by omega),if_neg h3,if_neg h4,p4];rfl
     conv=>whnf
     refine⟨⟨by omega,by omega,rfl⟩,?_⟩
     conv=>whnf
     refine⟨⟨rfl,Nat.zero_add _,by rw [p5];omega,by rw [p5];omega,rfl⟩,?_⟩
     conv=>whnf
     refine⟨⟨rfl,rfl⟩,?_⟩
     conv=>whnf
     refine⟨⟨rfl,Nat.zero_add _,by omega,by omega,rfl⟩,?_⟩
     conv=>whnf
     refine⟨⟨rfl,rfl⟩,?_⟩
     conv=>whnf
     ((first|refine fK_to ?_|refine fL_to ?_|refine fB_to ?_);conv=>whnf)
     repeat ((refine And.intro ?_ ?_);(focus ((conv=>whnf);done));conv=>whnf)
     refine hle _ _ (Le.env ?_ ?_) (ih ⟨i,setF f i (own ns root i),l,X++[nodeB (nd ns i)]⟩ (Nat.lt_succ_self i) (ok.step h3))
     ·skip
      repeat' (first|exact trivial|((conv=>whnf);first|exact trivial|refine⟨AV.le_refl _,?_⟩|refine⟨ABlk.le_refl _,?_⟩|(refine⟨AV.le_of_eq ?_,?_⟩;focus ((first|exact congrArg intV hw1|fail);done))|(refine⟨ABlk.le_of_eq ?_,?_⟩;focus ((first|exact congrArg intV hw1|fail);done))|fail)|fail)
     ·rw [ho,← hf]
      have e5:(0+(parF ns root ((i:Int)).toNat).toNat)=p:=by rw [p5,Nat.zero_add,Int.toNat_natCast]
      (conv=>whnf)
      refine⟨ABlk.le_refl _,?_⟩
      (conv=>whnf)
      refine⟨ABlk.le_refl _,?_⟩
      (conv=>whnf)
      refine⟨ABlk.le_refl _,?_⟩
      (conv=>whnf)
      refine⟨ABlk.le_refl _,?_⟩
      (conv=>whnf)
      refine⟨ABlk.le_refl _,?_⟩
      (conv=>whnf)
      refine⟨rowA_set (congrArg (fun q=>[intV (f q)]) e5) (Nat.zero_add _) (fun _ _=>rfl),?_⟩
      exact lesK_eq ((setN_snoc X _ _).trans (snoc_app X _))
  ·have h:i=0:=by have h:¬ (i:Int) - 1≥0:=h;omega
   subst h
   conv=>whnf
   ((first|refine fK_to ?_|refine fL_to ?_|refine fB_to ?_);conv=>whnf)
   refine loop_by (ι:=L2) (fun c=>⟨[(2,.p .nilp),(3,.ptr 4 0 1 0 0),(7,.p (.fn 93)),(81,.p (.sl 5 ns.length (nodeF ns))),(82,intV ns.length),(83,intV c.j)],lrK ns root (stG ns c.j) (stP ns c.j) ⟨0,f,l,c.X⟩⟩)
    (fun c=>c.j≤ns.length∧LcOk ns root (stL ns root c.j) ⟨0,f,l,c.X⟩) (fun c=>ns.length - c.j) ⟨0,X⟩ ⟨AV.le_refl _,AV.le_refl _,AV.le_refl _,AV.le_refl _,AV.le_refl _,AV.le_refl _,trivial⟩ (lesK.refl _) ⟨Nat.zero_le _,ok⟩ ?_
   rintro Z hlz ⟨j,X⟩ ⟨hj,ok⟩ ihz
   simp only at hj ok
   simp only [lrK]
   conv=>whnf
   refine two_dec (fun h2=>?_) (fun h2=>?_)
   ·have h2:j<ns.length:=by have h2:(j:Int)<(ns.length:Int):=h2;omega
    have hw2:=wzz (i:=j) (by omega)
    conv=>whnf
    refine⟨⟨by omega,by omega,rfl⟩,?_⟩
    conv=>whnf
    ((first|refine fK_to ?_|refine fL_to ?_|refine fB_to ?_);conv=>whnf)
    conv in (nth _ _)=>tactic=>exact nth_snoc (lrK ns root (stG ns j) (stP ns j) ⟨0,f,l,X⟩) _
    conv=>whnf
    ((first|refine fK_to ?_|refine fL_to ?_|refine fB_to ?_);conv=>whnf)
    conv in (nth _ _)=>tactic=>exact nth_setsnoc (lrK ns root (stG ns j) (stP ns j) ⟨0,f,l,X⟩) _ _
    conv=>whnf
    refine two_eq (fun h3=>?_) (fun h3=>?_)
    ·have h3:(nd ns j).k=2:=h3
     conv=>whnf
     conv in (nth _ _)=>tactic=>exact nth_setsnoc (lrK ns root (stG ns j) (stP ns j) ⟨0,f,l,X⟩) _ _
     conv=>whnf
     refine⟨1,(nd ns j).tx,j,stG ns j,rfl,rfl,?_⟩
     conv=>whnf
     refine hlz _ _ (Le.env ?_ ?_) (ihz ⟨j+1,X++[nodeB (nd ns j)]⟩ (by show _ - (j+1)<_ - j;omega) ⟨h2,ok.same (by omega)⟩)
     ·skip
      repeat' (first|exact trivial|((conv=>whnf);first|exact trivial|refine⟨AV.le_refl _,?_⟩|refine⟨ABlk.le_refl _,?_⟩|(refine⟨AV.le_of_eq ?_,?_⟩;focus ((first|exact congrArg intV hw2|fail);done))|(refine⟨ABlk.le_of_eq ?_,?_⟩;focus ((first|exact congrArg intV hw2|fail);done))|fail)|fail)
     ·(conv=>whnf)
      refine⟨ABlk.le_refl _,?_⟩
      (conv=>whnf)
      refine⟨ABlk.le_of_eq (congrArg (fun g=>ABlk.mp .str (strG g) []) (glob_step h3).symm),?_⟩
      (conv=>whnf)
      refine⟨ABlk.le_of_eq (congrArg (fun g=>ABlk.mp .str (strG g) []) (proc_same (by omega)).symm),?_⟩
      (conv=>whnf)
      refine⟨ABlk.le_refl _,?_⟩
      (conv=>whnf)
      refine⟨ABlk.le_refl _,?_⟩
      (conv=>whnf)
      refine⟨ABlk.le_refl _,?_⟩
      exact lesK_eq ((setN_snoc X _ _).trans (snoc_app X _))
    have h3:(nd ns j).k≠2:=h3
    conv=>whnf
    refine two_eq (fun h4=>?_) (fun h4=>?_)
    ·have h4:(nd ns j).k=3:=h4
     conv=>whnf
     conv in (nth _ _)=>tactic=>exact nth_setsnoc (lrK ns root (stG ns j) (stP ns j) ⟨0,f,l,X⟩) _ _
     conv=>whnf
     refine⟨2,(nd ns j).tx,j,stP ns j,rfl,rfl,?_⟩
     conv=>whnf
     refine hlz _ _ (Le.env ?_ ?_) (ihz ⟨j+1,X++[nodeB (nd ns j)]⟩ (by show _ - (j+1)<_ - j;omega) ⟨h2,ok.same (by omega)⟩)
     ·skip
      repeat' (first|exact trivial|((conv=>whnf);first|exact trivial|refine⟨AV.le_refl _,?_⟩|refine⟨ABlk.le_refl _,?_⟩|(refine⟨AV.le_of_eq ?_,?_⟩;focus ((first|exact congrArg intV hw2|fail);done))|(refine⟨ABlk.le_of_eq ?_,?_⟩;focus ((first|exact congrArg intV hw2|fail);done))|fail)|fail)
     ·(conv=>whnf)
      refine⟨ABlk.le_refl _,?_⟩
      (conv=>whnf)
      refine⟨ABlk.le_of_eq (congrArg (fun g=>ABlk.mp .str (strG g) []) (glob_same (by omega)).symm),?_⟩
      (conv=>whnf)
      refine⟨ABlk.le_of_eq (congrArg (fun g=>ABlk.mp .str (strG g) []) (proc_step h4).symm),?_⟩
      (conv=>whnf)
      refine⟨ABlk.le_refl _,?_⟩
      (conv=>whnf)
      refine⟨ABlk.le_refl _,?_⟩
      (conv=>whnf)
      refine⟨ABlk.le_refl _,?_⟩
      exact lesK_eq ((setN_snoc X _ _).trans (snoc_app X _))
    have h4:(nd ns j).k≠3:=h4
    conv=>whnf
    refine two_eq (fun h5=>?_) (fun h5=>?_)
    ·have h5:(nd ns j).k=4:=h5
     obtain⟨p,p1,p2,p3,p4,p5⟩:=rt.decl h2 (.inl h5)
     have hfj:f (0+((j:Int)).toNat)=own ns root j:=by
      have:=ok.ow j h2
      simp only at this
      rw [Nat.zero_add,Int.toNat_natCast,this,if_pos (Nat.zero_le _)]
     have hip:isProcB ns (own ns root j)=true:=isProcB_own st h2 (by rw [p5];omega)
     obtain⟨r,hlr⟩:∃ r,l (own ns root j)=some r:=by
      have:=ok.dom (own ns root j)
      simp only [hip,Bool.true_and] at this
      rw [decide_eq_true (by rw [p5];exact Int.natCast_nonneg p)] at this
      exact Option.isSome_iff_exists.1 this
     conv=>whnf
     refine⟨⟨rfl,Nat.zero_add _,by omega,by omega,rfl⟩,?_⟩
     conv=>whnf
     refine⟨⟨rfl,rfl⟩,?_⟩
     conv=>whnf
     refine MGet.of_some (a:=.mref (r+6)) (by rw [hfj];simp [locG,hlr]) ?_
     conv=>whnf
     conv in (nth _ _)=>tactic=>exact nth_setsnoc (lrK ns root (stG ns j) (stP ns j) ⟨0,f,l,X⟩) _ _
     conv=>whnf
     refine⟨r+6,(nd ns j).tx,j,stL ns root j (own ns root j),rfl,?_,?_⟩
     ·show nth (setN (snoc X _) (len X) _) r=_
      rw [setN_snoc,snoc_app]
      exact nth_left (ok.at_ _ _ hlr)
     conv=>whnf
     refine hlz _ _ (Le.env ?_ ?_) (ihz ⟨j+1,setN (X++[nodeB (nd ns j)]) r (.mp .str (strG (insF (stL ns root j (own ns root j)) (nd ns j).tx j)) [])⟩ (by show _ - (j+1)<_ - j;omega) ⟨h2,ok.left.local (.inl h5) hlr⟩)
     ·skip
      repeat' (first|exact trivial|((conv=>whnf);first|exact trivial|refine⟨AV.le_refl _,?_⟩|refine⟨ABlk.le_refl _,?_⟩|(refine⟨AV.le_of_eq ?_,?_⟩;focus ((first|exact congrArg intV hw2|fail);done))|(refine⟨ABlk.le_of_eq ?_,?_⟩;focus ((first|exact congrArg intV hw2|fail);done))|fail)|fail)
     ·(conv=>whnf)
      refine⟨ABlk.le_refl _,?_⟩
      (conv=>whnf)
      refine⟨ABlk.le_of_eq (congrArg (fun g=>ABlk.mp .str (strG g) []) (glob_same (by omega)).symm),?_⟩
      (conv=>whnf)
      refine⟨ABlk.le_of_eq (congrArg (fun g=>ABlk.mp .str (strG g) []) (proc_same (by omega)).symm),?_⟩
      (conv=>whnf)
      refine⟨ABlk.le_refl _,?_⟩
      (conv=>whnf)
      refine⟨ABlk.le_refl _,?_⟩
      (conv=>whnf)
      refine⟨ABlk.le_refl _,?_⟩
      exact lesK_eq (congrArg (fun Y=>setN Y r _) ((setN_snoc X _ _).trans (snoc_app X _)))
    have h5:(nd ns j).k≠4:=h5
    conv=>whnf
    refine two_eq (fun h6=>?_) (fun h6=>?_)
    ·have h6:(nd ns j).k=5:=h6
     obtain⟨p,p1,p2,p3,p4,p5⟩:=rt.decl h2 (.inr h6)
     have hfj:f (0+((j:Int)).toNat)=own ns root j:=by
      have:=ok.ow j h2
      simp only at this
      rw [Nat.zero_add,Int.toNat_natCast,this,if_pos (Nat.zero_le _)]
     have hip:isProcB ns (own ns root j)=true:=isProcB_own st h2 (by rw [p5];omega)
     obtain⟨r,hlr⟩:∃ r,l (own ns root j)=some r:=by
      have:=ok.dom (own ns root j)
      simp only [hip,Bool.true_and] at this
      rw [decide_eq_true (by rw [p5];exact Int.natCast_nonneg p)] at this
      exact Option.isSome_iff_exists.1 this
     conv=>whnf
     refine⟨⟨rfl,Nat.zero_add _,by omega,by omega,rfl⟩,?_⟩
     conv=>whnf
     refine⟨⟨rfl,rfl⟩,?_⟩
     conv=>whnf
     refine MGet.of_some (a:=.mref (r+6)) (by rw [hfj];simp [locG,hlr]) ?_
     conv=>whnf
     conv in (nth _ _)=>tactic=>exact nth_setsnoc (lrK ns root (stG ns j) (stP ns j) ⟨0,f,l,X⟩) _ _
     conv=>whnf
     refine⟨r+6,(nd ns j).tx,j,stL ns root j (own ns root j),rfl,?_,?_⟩
     ·show nth (setN (snoc X _) (len X) _) r=_
      rw [setN_snoc,snoc_app]
      exact nth_left (ok.at_ _ _ hlr)
     conv=>whnf
     refine hlz _ _ (Le.env ?_ ?_) (ihz ⟨j+1,setN (X++[nodeB (nd ns j)]) r (.mp .str (strG (insF (stL ns root j (own ns root j)) (nd ns j).tx j)) [])⟩ (by show _ - (j+1)<_ - j;omega) ⟨h2,ok.left.local (.inr h6) hlr⟩)
     ·skip
      repeat' (first|exact trivial|((conv=>whnf);first|exact trivial|refine⟨AV.le_refl _,?_⟩|refine⟨ABlk.le_refl _,?_⟩|(refine⟨AV.le_of_eq ?_,?_⟩;focus ((first|exact congrArg intV hw2|fail);done))|(refine⟨ABlk.le_of_eq ?_,?_⟩;focus ((first|exact congrArg intV hw2|fail);done))|fail)|fail)
     ·(conv=>whnf)
      refine⟨ABlk.le_refl _,?_⟩
      (conv=>whnf)
      refine⟨ABlk.le_of_eq (congrArg (fun g=>ABlk.mp .str (strG g) []) (glob_same (by omega)).symm),?_⟩
      (conv=>whnf)
      refine⟨ABlk.le_of_eq (congrArg (fun g=>ABlk.mp .str (strG g) []) (proc_same (by omega)).symm),?_⟩
      (conv=>whnf)
      refine⟨ABlk.le_refl _,?_⟩
      (conv=>whnf)
      refine⟨ABlk.le_refl _,?_⟩
      (conv=>whnf)
      refine⟨ABlk.le_refl _,?_⟩
      exact lesK_eq (congrArg (fun Y=>setN Y r _) ((setN_snoc X _ _).trans (snoc_app X _)))
    have h6:(nd ns j).k≠5:=h6
    conv=>whnf
    refine hlz _ _ (Le.env ?_ ?_) (ihz ⟨j+1,X++[nodeB (nd ns j)]⟩ (by show _ - (j+1)<_ - j;omega) ⟨h2,ok.same (by omega)⟩)
    ·skip
     repeat' (first|exact trivial|((conv=>whnf);first|exact trivial|refine⟨AV.le_refl _,?_⟩|refine⟨ABlk.le_refl _,?_⟩|(refine⟨AV.le_of_eq ?_,?_⟩;focus ((first|exact congrArg intV hw2|fail);done))|(refine⟨ABlk.le_of_eq ?_,?_⟩;focus ((first|exact congrArg intV hw2|fail);done))|fail)|fail)
    ·(conv=>whnf)
     refine⟨ABlk.le_refl _,?_⟩
     (conv=>whnf)
     refine⟨ABlk.le_of_eq (congrArg (fun g=>ABlk.mp .str (strG g) []) (glob_same (by omega)).symm),?_⟩
     (conv=>whnf)
     refine⟨ABlk.le_of_eq (congrArg (fun g=>ABlk.mp .str (strG g) []) (proc_same (by omega)).symm),?_⟩
     (conv=>whnf)
     refine⟨ABlk.le_refl _,?_⟩
     (conv=>whnf)
     refine⟨ABlk.le_refl _,?_⟩
     (conv=>whnf)
     refine⟨ABlk.le_refl _,?_⟩
     exact lesK_eq ((setN_snoc X _ _).trans (snoc_app X _))
   ·obtain rfl:j=ns.length:=by have h2:¬ (j:Int)<(ns.length:Int):=h2;omega
    conv=>whnf
    ((first|refine fK_to ?_|refine fL_to ?_|refine fB_to ?_);conv=>whnf)
    exact hr _ _ _ _ (Wk1.fzAll (lr_fz st ok)) rfl hk
structure Tame (ns:List Nd):Prop where
 len:ns.length<1000000
 tx:∀ i,(ns.getD i default).tx.length<1000000
def gW1:AG:=gput 44 cRight g0
theorem gW1_ok:GOk Tryz.prog gW1:=gput_ok right_ok g0_ok
def cWithin:AC:=fun args K k=>∃ ns root i,args=[treeV ns root,intV i]∧Tame ns∧k (.ret (.p (.bool (insT ns root i)))) K
theorem within_ok:COk 53 cWithin:=by
 rintro args K k ⟨ns,root,i,rfl,t,hk⟩
 refine frame0P gW1_ok 19 rfl fun Q hr=>?_
 unfold insT at hk
 conv=>whnf
 refine two_dec (fun h=>?_) (fun h=>?_)
 ·have h:0≤i:=h
  rw [decide_eq_true h,Bool.true_and] at hk
  conv=>whnf
  refine two_dec (fun h2=>?_) (fun h2=>?_)
  ·have h2:i<ns.length:=h2
   rw [decide_eq_true h2,Bool.true_and] at hk
   conv=>whnf
   refine⟨ns,root,rfl,t.len,t.tx,?_⟩
   conv=>whnf
   exact hr _ _ rfl hk
  ·have h2:¬ i<ns.length:=h2
   rw [decide_eq_false h2,Bool.false_and] at hk
   conv=>whnf
   exact hr _ _ rfl hk
 ·have h:¬ 0≤i:=h
  rw [decide_eq_false h,Bool.false_and,Bool.false_and] at hk
  conv=>whnf
  exact hr _ _ rfl hk
theorem insT_yes {ns:List Nd} {root i:Int} (h:insT ns root i=true):RightT ns root∧∃ j:Nat,i=(j:Int)∧j<ns.length:=by
 simp only [insT,Bool.and_eq_true,decide_eq_true_eq] at h
 exact⟨right_of h.2,i.toNat,by omega,by omega⟩
def gW2:AG:=gput 53 cWithin (gput 45 cLearn (gput 55 cMeans (gput 47 cTProc (gput 59 cTy (gput 57 cTPlain gW1)))))
theorem gW2_ok:GOk Tryz.prog gW2:=gput_ok within_ok (gput_ok learn_ok (gput_ok means_ok (gput_ok proc_ok' (gput_ok ty_ok (gput_ok tplain_ok gW1_ok)))))
def cOwner:AC:=fun args K k=>∃ ns root i,args=[treeV ns root,intV i]∧Tame ns∧k (.ret (intV (ownerT ns root i))) K
theorem owner_ok:COk 11 cOwner:=by
 rintro args K k ⟨ns,root,i,rfl,t,hk⟩
 refine frame0P gW2_ok 19 rfl fun Q hr=>?_
 unfold ownerT at hk
 conv=>whnf
 refine⟨ns,root,i,rfl,t,?_⟩
 cases h:insT ns root i with
 | false =>
  rw [h] at hk
  conv=>whnf
  exact hr _ _ rfl hk
 | true =>
  rw [h] at hk
  obtain⟨rt,j,rfl,hj⟩:=insT_yes h
  conv=>whnf
  refine⟨ns,root,rfl,rt,?_⟩
  conv=>whnf
  refine⟨⟨by omega,by omega,rfl⟩,?_⟩
  conv=>whnf
  exact hr _ _ rfl hk
def gW4:AG:=gput 45 cLearn (gput 47 cTProc (gput 48 cParams (gput 46 cCheckN gW1)))
theorem gW4_ok:GOk Tryz.prog gW4:=gput_ok learn_ok (gput_ok proc_ok' (gput_ok params_ok (gput_ok checkN_ok gW1_ok)))
def ckV (p:Int×Int):AV:=.tup [intV p.1,intV p.2]
def cCheck:AC:=fun args K k=>∃ ns root,args=[treeV ns root]∧Tame ns∧k (.ret (ckV (checkTree ns root))) K
theorem check_ok:COk 9 cCheck:=by
 rintro args K k ⟨ns,root,rfl,t,hk⟩
 refine frame0P gW4_ok 19 rfl fun Q hr=>?_
 unfold checkTree at hk
 conv=>whnf
 refine⟨ns,root,rfl,t.len,t.tx,?_⟩
 cases h:rightS ns root with
 | false =>
  rw [h] at hk
  conv=>whnf
  exact hr _ _ rfl hk
 | true =>
  rw [h] at hk
  have rt:=right_of h
  have hlen:=rt.len
  simp only at hk
  conv=>whnf
  refine⟨ns,root,rfl,rt,?_⟩
  conv=>whnf
  refine loop_up (ι:=Nat) [1,4,15] (fun i=>[(16,intV i)]) (fun _=>[]) (fun i=>i≤ns.length∧wrongS ns root i (ns.length - i)=wrongS ns root 0 ns.length) (fun i=>ns.length - i) 0 ⟨AV.le_refl _,trivial⟩ trivial ⟨Nat.zero_le _,rfl⟩ ?_
  rintro Y hle i ⟨hi,he⟩ ih
  conv=>whnf
  refine two_dec (fun h2=>?_) (fun h2=>?_)
  ·have h2:i<ns.length:=by have h2:(i:Int)<(ns.length:Int):=h2;omega
   have hw1:=wzz (i:=i) (by omega)
   obtain⟨m,hm⟩:∃ m,ns.length - i=m+1:=⟨ns.length - i - 1,by omega⟩
   have hm':ns.length - (i+1)=m:=by omega
   rw [hm] at he
   simp only [wrongS] at he
   conv=>whnf
   refine⟨ns,root,i,rfl,rt,h2,?_⟩
   conv=>whnf
   refine two_ne (fun h3=>?_) (fun h3=>?_)
   ·have h3:checkS ns root i≠0:=h3
    rw [beq_eq_false_iff_ne.2 h3] at he
    simp only at he
    rw [← he] at hk
    conv=>whnf
    exact hr _ _ rfl hk
   ·have h3:checkS ns root i=0:=h3
    rw [h3] at he
    conv=>whnf
    refine hle _ _ (Le.env ?_ ?_) (ih (i+1) (by omega) ⟨by omega,by rw [hm'];exact he⟩)
    ·skip
     repeat' (first|exact trivial|((conv=>whnf);first|exact trivial|refine⟨AV.le_refl _,?_⟩|refine⟨ABlk.le_refl _,?_⟩|(refine⟨AV.le_of_eq ?_,?_⟩;focus ((first|exact congrArg intV hw1|fail);done))|(refine⟨ABlk.le_of_eq ?_,?_⟩;focus ((first|exact congrArg intV hw1|fail);done))|fail)|fail)
    ·skip
     repeat' (first|exact trivial|((conv=>whnf);first|exact trivial|refine⟨AV.le_refl _,?_⟩|refine⟨ABlk.le_refl _,?_⟩|fail)|fail)
  ·obtain rfl:i=ns.length:=by have h2:¬ (i:Int)<(ns.length:Int):=h2;omega
   rw [Nat.sub_self] at he
   simp only [wrongS] at he
   rw [← he] at hk
   simp only at hk
   conv=>whnf
   refine⟨ns,root,mainT,rfl,?_⟩
   have hp:=procI_range ns mainT
   generalize procI ns mainT=p at hk hp ⊢
   conv=>whnf
   refine two_eq (fun h3=>?_) (fun h3=>?_)
   ·have h3:p=-1:=h3
    subst h3
    conv=>whnf
    exact hr _ _ rfl hk
   have h3:p≠-1:=h3
   obtain⟨q,rfl⟩:∃ q:Nat,p=(q:Int):=⟨p.toNat,by omega⟩
   have hq:q<ns.length:=by omega
   rw [beq_eq_false_iff_ne.2 h3,Bool.false_or] at hk
   conv=>whnf
   refine⟨⟨by omega,by omega,rfl⟩,?_⟩
   conv=>whnf
   refine two_ne (fun h4=>?_) (fun h4=>?_)
   ·have h4:(nd ns q).n≠0:=h4
    rw [show ((nd ns ((q:Int)).toNat).n != 0)=true from bne_iff_ne.2 h4] at hk
    conv=>whnf
    exact hr _ _ rfl hk
   have h4:(nd ns q).n=0:=h4
   rw [show ((nd ns ((q:Int)).toNat).n != 0)=false from by simpa using h4,Bool.false_or] at hk
   conv=>whnf
   refine⟨ns,root,q,rfl,rt.toStd,hq,?_⟩
   conv=>whnf
   refine two_dec (fun h5=>?_) (fun h5=>?_)
   ·have h5:0<(paramsS ns q).length:=by have h5:((paramsS ns q).length:Int)>0:=h5;omega
    rw [show decide (0<(paramsS ns ((q:Int)).toNat).length)=true from decide_eq_true h5] at hk
    conv=>whnf
    exact hr _ _ rfl hk
   ·have h5:¬ 0<(paramsS ns q).length:=by have h5:¬ ((paramsS ns q).length:Int)>0:=h5;omega
    rw [show decide (0<(paramsS ns ((q:Int)).toNat).length)=false from decide_eq_false h5] at hk
    conv=>whnf
    exact hr _ _ rfl hk
end Go.Proofs.YtojjkleplnijaaaGreatDoor
namespace Go.Ru
theorem bind_ok {α β:Type} {r:R α} {f:α→PS→R β} {b:β} {s':PS} (h:r.bind f=.ok b s'):∃ a s,r=.ok a s∧f a s=.ok b s':=by
 cases r with
 | ok a s=>exact⟨a,s,rfl,h⟩
 | bad a e=>simp [R.bind] at h
def Okk {α:Type} (r:R α) (p:PS→Prop):Prop:=∀ a s,r=.ok a s→p s
theorem Okk.bind {α β:Type} {r:R α} {f:α→PS→R β} {p q:PS→Prop} (h:Okk r p) (h':∀ a s,p s→Okk (f a s) q):Okk (r.bind f) q:=fun b s' hb=>by
 obtain⟨a,s,h1,h2⟩:=bind_ok hb
 exact h' a s (h a s h1) b s' h2
theorem Okk.imp {α:Type} {r:R α} {p q:PS→Prop} (h:Okk r p) (h':∀ s,p s→q s):Okk r q:=fun a s hr=>h' s (h a s hr)
theorem Okk.pure {α:Type} {a:α} {s:PS} {p:PS→Prop} (h:p s):Okk (.ok a s) p:=fun b s' hb=>by
 injection hb with _ h2
 exact h2▸h
theorem Okk.bad {α:Type} {a e:Int} {p:PS→Prop}:Okk (.bad a e:R α) p:=fun b s' hb=>by simp at hb
def Lw (s0:PS) (c k:Nat) (s:PS):Prop:=s.ns.length+4*s.ts.length+c≤s0.ns.length+4*s0.ts.length∧s.ts.length+k≤s0.ts.length
theorem isS_pos {w:Bs} {ts:List Tok} (h:isS w ts=true):0<ts.length:=by
 cases ts with
 | nil=>simp [isS] at h
 | cons t r=>simp
theorem drop_le (s:PS) (h:0<s.ts.length):Lw s 4 1 (dropS s):=by
 simp only [Lw,dropS,List.length_tail];omega
theorem want_le (e:Int) (w:Bs) (s:PS):Okk (wantS e w s) (Lw s 4 1):=by
 unfold wantS
 split
 ·rename_i h;exact .pure (drop_le s (isS_pos h))
 ·exact .bad
theorem ident_le (e:Int) (s:PS):Okk (identS e s) (Lw s 4 1):=by
 unfold identS
 split
 ·exact .bad
 ·rename_i t r h
  split
  ·refine .pure ?_
   simp only [Lw,h,List.length_cons];omega
  ·exact .bad
theorem put_len (n:Nd) (s:PS):Okk (putS n s) (fun s'=>s'.ns.length=s.ns.length+1∧s'.ts.length=s.ts.length):=by
 unfold putS
 exact .pure (by simp)
theorem put_le {n:Nd} {s0 s:PS} {c k:Nat} (h:Lw s0 (c+1) k s):Okk (putS n s) (Lw s0 c k):=(put_len n s).imp fun s' h'=>by
 simp only [Lw] at h ⊢;omega
theorem Lw.trans {s0 s1 s2:PS} {c k c' k':Nat} (h:Lw s0 c k s1) (h':Lw s1 c' k' s2):Lw s0 (c+c') (k+k') s2:=by
 simp only [Lw] at h h' ⊢;omega
theorem Lw.weak {s0 s1:PS} {c k c' k':Nat} (h:Lw s0 c k s1) (hc:c'≤c) (hk:k'≤k):Lw s0 c' k' s1:=by
 simp only [Lw] at h ⊢;omega
theorem Lw.refl (s:PS):Lw s 0 0 s:=by simp [Lw]
def Dm {α:Type} (c k:Nat) (m:M α):Prop:=∀ s,Okk (m s) (Lw s c k)
theorem within_le {α:Type} (e:Int) (d:Nat) (op cl:Bs) {what:M α} {c k:Nat} (h:Dm c k what) (s:PS):Okk (withinS e d op cl what s) (Lw s (c+4) (k+1)):=by
 unfold withinS
 split
 ·exact .bad
 ·rename_i hw
  have hp:=isS_pos hw
  split
  ·exact .bad
  ·refine Okk.bind (h _) fun a s1 h1=>?_
   have h2:Lw s (c+4) (k+1) s1:=by
    simp only [Lw,List.length_tail] at h1 ⊢;omega
   split
   ·exact .pure h2
   ·refine Okk.bind (want_le _ _ _) fun _ s3 h3=>.pure ?_
    simp only [Lw] at h2 h3 ⊢;omega
theorem rowLoop_le (l:List Bs) {opnd:M Int} (h:Dm 0 0 opnd):∀ n x s,Okk (rowLoop l opnd n x s) (Lw s 0 0):=by
 intro n
 induction n with
 | zero=>exact fun x s=>.pure (Lw.refl s)
 | succ n ih =>
  intro x s
  unfold rowLoop
  split
  ·exact .pure (Lw.refl s)
  ·rename_i t r ht
   split
   ·exact .pure (Lw.refl s)
   ·refine Okk.bind (h _) fun y s1 h1=>?_
    have h2:Lw s 4 1 s1:=by simp only [Lw,ht,List.length_cons] at h1 ⊢;omega
    refine Okk.bind (put_le (c:=3) h2) fun x s3 h3=>(ih x s3).imp fun s4 h4=>?_
    exact (h3.trans h4).weak (by omega) (by omega)
theorem expr_le {una:M Int} (h:Dm 3 1 una):∀ j,Dm 3 1 (exprS una j):=by
 intro j
 induction j with
 | zero=>exact h
 | succ j ih =>
  intro s
  unfold exprS
  refine Okk.bind (ih s) fun x s1 h1=>(rowLoop_le _ (fun s=>(ih s).imp fun s' h'=>h'.weak (by omega) (by omega)) _ x s1).imp fun s2 h2=>?_
  exact h1.trans h2
theorem prim_le (e:Int) (d:Nat) {inner:M Int} (h:Dm 0 0 inner):Dm 3 1 (primS e d inner):=by
 intro s
 unfold primS
 split
 ·exact .bad
 ·rename_i t r ht
  have hs:Lw s 4 1 ⟨r,s.ns,s.mo⟩:=by simp only [Lw,ht,List.length_cons];omega
  split
  ·exact put_le hs
  ·split
   ·refine Okk.bind (within_le e d [91] [93] h _) fun x s1 h1=>put_le ((hs.trans h1).weak (by omega) (by omega))
   ·exact put_le hs
  ·split
   ·exact put_le hs
   ·split
    ·exact put_le hs
    ·split
     ·exact Okk.bind (ident_le e _) fun t' s1 h1=>put_le ((hs.trans h1).weak (by omega) (by omega))
     ·split
      ·exact Okk.bind (ident_le e _) fun t' s1 h1=>put_le ((hs.trans h1).weak (by omega) (by omega))
      ·split
       ·exact (within_le e d [40] [41] h s).imp fun s1 h1=>h1.weak (by omega) (by omega)
       ·exact .bad
theorem unaB_le (e:Int) (d:Nat) {una inner:M Int} (h1:Dm 0 0 una) (h2:Dm 0 0 inner):Dm 3 1 (unaB e d una inner):=by
 intro s
 unfold unaB
 split
 ·exact .bad
 ·split
  ·exact Okk.bind (within_le e d _ _ h1 s) fun x s1 h=>put_le (h.weak (by omega) (by omega))
  ·exact prim_le e d h2 s
theorem una_le (e:Int):∀ d,Dm 3 1 (unaS e d):=by
 intro d
 induction d with
 | zero=>exact unaB_le e 0 (fun s=>.bad) (fun s=>.bad)
 | succ d ih =>
  exact unaB_le e (d+1) (fun s=>(ih s).imp fun s' h=>h.weak (by omega) (by omega)) (fun s=>(expr_le ih 5 s).imp fun s' h=>h.weak (by omega) (by omega))
theorem ex_le (e:Int) (d:Nat):Dm 3 1 (exS e d):=expr_le (una_le e d) 5
theorem Dm.weak {α:Type} {c k c' k':Nat} {m:M α} (h:Dm c k m) (hc:c'≤c) (hk:k'≤k):Dm c' k' m:=fun s=>(h s).imp fun _ h=>h.weak hc hk
theorem in_le (e:Int) (d:Nat):Dm 3 1 (inS e d):=by
 cases d with
 | zero=>exact fun s=>.bad
 | succ d=>exact ex_le e d
theorem index_le (e:Int) (d:Nat):Dm 7 2 (indexS e d):=within_le e d _ _ (in_le e d)
theorem comma_le {α:Type} {one:List α→M (List α)} (h:∀ l,Dm 0 0 (one l)):∀ n l,Dm 0 0 (commaL one n l):=by
 intro n
 induction n with
 | zero=>exact fun l s=>.pure (Lw.refl s)
 | succ n ih =>
  intro l s
  unfold commaL
  split
  ·rename_i hw
   refine Okk.bind (h l (dropS s)) fun l' s1 h1=>(ih l' s1).imp fun s2 h2=>?_
   exact (((drop_le s (isS_pos hw)).trans h1).trans h2).weak (by omega) (by omega)
  ·exact .pure (Lw.refl s)
theorem list_le {α:Type} {one:List α→M (List α)} (h:∀ l,Dm 0 0 (one l)) (l:List α):Dm 0 0 (listS one l):=by
 intro s
 unfold listS
 split
 ·exact .pure (Lw.refl s)
 ·exact Okk.bind (h l s) fun l' s1 h1=>(comma_le h _ l' s1).imp fun s2 h2=>(h1.trans h2).weak (by omega) (by omega)
theorem one_le {m:M Int} {c k:Nat} (h:Dm c k m) (l:List Int):Dm c k (oneS m l):=fun s=>Okk.bind (h s) fun _ _ h1=>.pure h1
theorem call_le (e:Int) (d:Nat) (a:Int) (tx:Bs):Dm 6 2 (callS e d a tx):=by
 intro s
 unfold callS
 refine Okk.bind (ident_le e s) fun t s1 h1=>Okk.bind (put_le (c:=3) h1) fun x s2 h2=>?_
 refine Okk.bind (within_le e d _ _ (list_le (fun l=>one_le ((in_le e d).weak (by omega) (by omega)) l) [x]) s2) fun l s3 h3=>put_le ((h2.trans h3).weak (by omega) (by omega))
theorem chan_le (e:Int):Dm 3 1 (chanS e):=fun s=>Okk.bind (ident_le e s) fun _ _ h=>put_le h
theorem named_le (e:Int) (d:Nat):Dm 3 1 (namedS e d):=by
 intro s
 unfold namedS
 refine Okk.bind (ident_le e s) fun t s1 h1=>?_
 split
 ·exact Okk.bind (index_le e d s1) fun x s2 h2=>Okk.bind (want_le e _ s2) fun _ s3 h3=>Okk.bind (ex_le e d s3) fun y s4 h4 =>
   put_le ((((h1.trans h2).trans h3).trans h4).weak (by omega) (by omega))
 ·refine Okk.bind (want_le e _ s1) fun _ s2 h2=>?_
  have h12:=h1.trans h2
  split
  ·rename_i hw
   exact Okk.bind (chan_le e _) fun x s3 h3=>put_le (((h12.trans (drop_le _ (isS_pos hw))).trans h3).weak (by omega) (by omega))
  ·split
   ·rename_i hw
    exact (call_le e d _ _ _).imp fun s3 h3=>((h12.trans (drop_le _ (isS_pos hw))).trans h3).weak (by omega) (by omega)
   ·split
    ·rename_i hw
     exact Okk.bind (ex_le e d _) fun x s3 h3=>put_le (((h12.trans (drop_le _ (isS_pos hw))).trans h3).weak (by omega) (by omega))
    ·exact Okk.bind (ex_le e d _) fun x s3 h3=>put_le ((h12.trans h3).weak (by omega) (by omega))
theorem plain_le (e:Int) (d:Nat):Dm 3 1 (plainS e d):=by
 intro s
 unfold plainS
 simp only
 split
 ·rename_i hw
  exact Okk.bind (chan_le e _) fun c s1 h1=>Okk.bind (ex_le e d s1) fun x s2 h2=>put_le ((((drop_le s (isS_pos hw)).trans h1).trans h2).weak (by omega) (by omega))
 ·split
  ·rename_i hw
   exact (call_le e d _ _ _).imp fun s1 h1=>((drop_le s (isS_pos hw)).trans h1).weak (by omega) (by omega)
  ·split
   ·rename_i hw
    exact Okk.bind (ex_le e d _) fun x s1 h1=>put_le (((drop_le s (isS_pos hw)).trans h1).weak (by omega) (by omega))
   ·split
    ·rename_i hw
     split
     ·exact put_le (drop_le s (isS_pos hw))
     ·exact Okk.bind (ex_le e d _) fun x s1 h1=>put_le (((drop_le s (isS_pos hw)).trans h1).weak (by omega) (by omega))
    ·exact named_le e d s
theorem stmtsL_le {stmt:M Int} (h:Dm 0 0 stmt):∀ n l,Dm 0 0 (stmtsL stmt n l):=by
 intro n
 induction n with
 | zero=>exact fun l s=>.bad
 | succ n ih =>
  intro l s
  unfold stmtsL
  split
  ·exact .pure (Lw.refl s)
  ·exact Okk.bind (h s) fun x s1 h1=>(ih _ s1).imp fun s2 h2=>(h1.trans h2).weak (by omega) (by omega)
theorem stmts_le {stmt:M Int} (h:Dm 0 0 stmt) (l:List Int):Dm 0 0 (stmtsS stmt l):=fun s=>stmtsL_le h _ l s
theorem block_le (e:Int) (d:Nat) {stmt:M Int} (h:Dm 0 0 stmt):Dm 3 1 (blockB e d stmt):=by
 intro s
 unfold blockB
 simp only
 exact Okk.bind (within_le e d _ _ (stmts_le h []) s) fun l s1 h1=>put_le (h1.weak (by omega) (by omega))
theorem stmtB_le (e:Int) (d:Nat) {stmt:M Int} (h:Dm 0 0 stmt):Dm 3 1 (stmtB e d stmt):=by
 intro s
 unfold stmtB
 simp only
 split
 ·rename_i hw
  refine Okk.bind (ex_le e d _) fun x s1 h1=>Okk.bind (block_le e d h s1) fun a s2 h2=>?_
  have h3:=((drop_le s (isS_pos hw)).trans h1).trans h2
  split
  ·rename_i hw2
   exact Okk.bind (block_le e d h _) fun b s3 h4=>put_le (((h3.trans (drop_le s2 (isS_pos hw2))).trans h4).weak (by omega) (by omega))
  ·exact Okk.bind (put_le (c:=9) (k:=3) (h3.weak (by omega) (by omega))) fun b s3 h4=>put_le (h4.weak (by omega) (by omega))
 ·split
  ·rename_i hw
   exact Okk.bind (ex_le e d _) fun x s1 h1=>Okk.bind (block_le e d h s1) fun a s2 h2=>put_le ((((drop_le s (isS_pos hw)).trans h1).trans h2).weak (by omega) (by omega))
  ·split
   ·rename_i hw
    exact Okk.bind (block_le e d h _) fun a s1 h1=>Okk.bind (want_le e _ s1) fun _ s2 h2=>Okk.bind (ident_le e s2) fun t s3 h3=>Okk.bind (block_le e d h s3) fun b s4 h4 =>
     put_le ((((((drop_le s (isS_pos hw)).trans h1).trans h2).trans h3).trans h4).weak (by omega) (by omega))
   ·exact Okk.bind (plain_le e d s) fun x s1 h1=>Okk.bind (want_le e _ s1) fun _ s2 h2=>.pure ((h1.trans h2).weak (by omega) (by omega))
theorem stmt_le (e:Int):∀ d,Dm 3 1 (stmtS e d):=by
 intro d
 induction d with
 | zero=>exact stmtB_le e 0 (fun s=>.bad)
 | succ d ih=>exact stmtB_le e (d+1) (ih.weak (by omega) (by omega))
theorem inStmt_le (e:Int) (d:Nat):Dm 3 1 (inStmtS e d):=by
 cases d with
 | zero=>exact fun s=>.bad
 | succ d=>exact stmt_le e d
theorem types_pos {ts:List Tok} (h:typesS ts≠0):0<ts.length:=by
 cases ts with
 | nil=>simp [typesS,isS] at h
 | cons t r=>simp
theorem typed_le (e k a:Int) (tx:Bs):Dm 3 1 (typedS e k a tx):=by
 intro s
 unfold typedS
 split
 ·exact .bad
 ·rename_i h
  exact put_le (drop_le s (types_pos (by simpa using h)))
theorem varsL_le (e kind:Int):∀ n l,Dm 0 0 (varsL e kind n l):=by
 intro n
 induction n with
 | zero=>exact fun l s=>.pure (Lw.refl s)
 | succ n ih =>
  intro l s
  unfold varsL
  split
  ·exact .pure (Lw.refl s)
  ·rename_i hw
   exact Okk.bind (ident_le e _) fun t s1 h1=>Okk.bind (typed_le e kind _ _ s1) fun x s2 h2=>Okk.bind (want_le e _ s2) fun _ s3 h3=>(ih _ s3).imp fun s4 h4 =>
    (((((drop_le s (isS_pos hw)).trans h1).trans h2).trans h3).trans h4).weak (by omega) (by omega)
theorem vars_le (e kind:Int):Dm 0 0 (varsS e kind):=fun s=>varsL_le e kind _ [] s
theorem body_le (e:Int) (d:Nat):Dm 3 1 (bodyS e d):=by
 intro s
 unfold bodyS
 simp only
 refine Okk.bind (within_le (c:=0) (k:=0) e d _ _ (fun s=>?_) s) fun p s1 h1=>Okk.bind (put_le (c:=3) (k:=1) (h1.weak (by omega) (by omega))) fun b s2 h2=>.pure h2
 exact Okk.bind (vars_le e 5 s) fun vs s1 h1=>Okk.bind (stmts_le ((inStmt_le e d).weak (by omega) (by omega)) [] s1) fun l s2 h2=>.pure ((h1.trans h2).weak (by omega) (by omega))
theorem param_le (e:Int):Dm 7 2 (paramS e):=fun s=>Okk.bind (ident_le e s) fun t s1 h1=>(typed_le e 4 _ _ s1).imp fun s2 h2=>h1.trans h2
theorem proc_le (e:Int) (d:Nat):Dm 3 1 (procS e d):=by
 intro s
 unfold procS
 simp only
 refine Okk.bind (want_le e _ s) fun _ s1 h1=>Okk.bind (ident_le e s1) fun t s2 h2=>Okk.bind (within_le (c:=0) (k:=0) e d _ _ (list_le (fun l=>(one_le (param_le e) l).weak (by omega) (by omega)) []) s2) fun ps s3 h3=>?_
 have h4:=(h1.trans h2).trans h3
 have h5:Lw s3 0 0 (match decide (typesS s3.ts>0) with
  | true=>dropS s3
  | false=>s3):=by
  split
  ·rename_i h
   have h:typesS s3.ts>0:=by simpa using h
   exact (drop_le s3 (types_pos (by omega))).weak (by omega) (by omega)
  ·exact Lw.refl s3
 exact Okk.bind (body_le e d _) fun p s5 h6=>put_le (((h4.trans h5).trans h6).weak (by omega) (by omega))
theorem procsL_le (e:Int) (d:Nat):∀ n l,Dm 0 0 (procsL e d n l):=by
 intro n
 induction n with
 | zero=>exact fun l s=>.pure (Lw.refl s)
 | succ n ih =>
  intro l s
  unfold procsL
  split
  ·exact .pure (Lw.refl s)
  ·exact Okk.bind (proc_le e d s) fun x s1 h1=>(ih _ s1).imp fun s2 h2=>(h1.trans h2).weak (by omega) (by omega)
theorem varsL_len (e kind:Int):∀ n l s l' s',varsL e kind n l s=.ok l' s'→l'.length+s'.ts.length≤l.length+s.ts.length:=by
 intro n
 induction n with
 | zero=>intro l s l' s' h;simp only [varsL,R.ok.injEq] at h;obtain⟨rfl,rfl⟩:=h;exact Nat.le_refl _
 | succ n ih =>
  intro l s l' s' h
  unfold varsL at h
  split at h
  ·simp only [R.ok.injEq] at h;obtain⟨rfl,rfl⟩:=h;exact Nat.le_refl _
  ·rename_i hw
   obtain⟨t,s1,h1,h⟩:=bind_ok h
   obtain⟨x,s2,h2,h⟩:=bind_ok h
   obtain⟨_,s3,h3,h⟩:=bind_ok h
   have:=ih _ _ _ _ h
   have l1:=(ident_le e _ _ _ h1).2
   have l2:=(typed_le e kind _ _ _ _ _ h2).2
   have l3:=(want_le e _ _ _ _ h3).2
   have l0:=(drop_le s (isS_pos hw)).2
   simp only [List.length_append,List.length_cons,List.length_nil] at this
   omega
theorem body_len (e:Int) (d:Nat) (s:PS) (p:List Int×Int) (s':PS) (h:bodyS e d s=.ok p s'):p.1.length≤s.ts.length:=by
 unfold bodyS at h
 simp only at h
 obtain⟨p1,s1,h1,h⟩:=bind_ok h
 obtain⟨b,s2,h2,h⟩:=bind_ok h
 simp only [R.ok.injEq] at h
 obtain⟨rfl,-⟩:=h
 unfold withinS at h1
 split at h1
 ·simp at h1
 ·split at h1
  ·simp at h1
  ·obtain⟨q,s3,h3,h1⟩:=bind_ok h1
   obtain⟨vs,s4,h4,h3⟩:=bind_ok h3
   obtain⟨l,s5,h5,h3⟩:=bind_ok h3
   simp only [R.ok.injEq] at h3
   obtain⟨rfl,rfl⟩:=h3
   have h6:=varsL_len e 5 _ _ _ _ _ h4
   simp only [List.length_nil,List.length_tail] at h6
   have h7:p1.1=vs:=by
    simp only at h1
    obtain⟨_,s6,_,h1⟩:=bind_ok h1
    simp only [R.ok.injEq] at h1
    rw [← h1.1]
   simp only
   rw [h7];omega
end Go.Ru
namespace Go.Proofs.YtojjkleplnijaaaGreatDoor
open Go.AE Go.Ru
set_option maxRecDepth 100000
def Fine (d:Nat) (ts:List Tok) (ns:List Nd):Prop:=d≤40∧ns.length+4*ts.length≤900000
def cUna (D:Nat):AC:=fun args K k=>∃ d:Nat,∃ e ts ns mo op X,args=[pp]∧K=encP e ts ns op mo++X∧op=40 - (d:Int)∧d<D∧Fine d ts ns∧After e (unaS e d ⟨ts,ns,mo⟩) intV op X k
def cExJ (D J:Nat):AC:=fun args K k=>∃ d j:Nat,∃ e ts ns mo op kk X,args=[pp,.p (.int .i64 kk)]∧K=encP e ts ns op mo++X∧op=40 - (d:Int)∧kk=5 - (j:Int)∧d<D∧j<J∧J≤6∧Fine d ts ns ∧
 After e (exprS (unaS e d) j ⟨ts,ns,mo⟩) intV op X k
def cPrim (D:Nat):AC:=fun args K k=>∃ d:Nat,∃ e ts ns mo op X,args=[pp]∧K=encP e ts ns op mo++X∧op=40 - (d:Int)∧d≤D∧Fine d ts ns∧After e (primS e d (inS e d) ⟨ts,ns,mo⟩) intV op X k
def gE (D J:Nat):AG:=gput 242 (cUna D) (gput 229 (cExJ D J) g7)
theorem gE_ok {D J:Nat} (hU:COk 242 (cUna D)) (hE:COk 229 (cExJ D J)):GOk Tryz.prog (gE D J):=gput_ok hU (gput_ok hE g7_ok)
theorem nt {b:Bool} (h:(!b)=true):b=false:=by simpa using h
theorem nf {b:Bool} (h:(!b)=false):b=true:=by simpa using h
theorem isS_self {w:Bs} {t:Tok} {r:List Tok} (h:isS w (t::r)=true):isS t.tx (t::r)=true:=by
 obtain⟨k,n,a,tx⟩:=t
 cases k<;>simp_all [isS]
theorem in_op {op:Int} {d:Nat} (ho:op=40 - ((d+1:Nat):Int)) (h:d<1000):IntKind.i64.wrap (op+1)=40 - (d:Int):=by
 rw [w64 (by omega)];omega
theorem in_mo {op mo:Int} {d:Nat} (ho:op=40 - ((d+1:Nat):Int)) (h:d<1000):(if IntKind.i64.wrap (op+1)>mo then IntKind.i64.wrap (op+1) else mo)=moreS (d+1) mo:=by
 rw [in_op ho h,moreS]
 have e:(41:Int) - ((d+1:Nat):Int)=40 - d:=by omega
 rw [e]
theorem out_op {op:Int} {d:Nat} (ho:op=40 - ((d+1:Nat):Int)) (h:d<1000):IntKind.i64.wrap (IntKind.i64.wrap (op+1) - 1)=op:=by
 rw [in_op ho h,w64 (by omega)];omega
theorem unaS_eq (e:Int) (d:Nat) (s:PS):unaS e d s=unaB e d (match d with
 | 0=>fun _=>.bad 0 0
 | d+1=>unaS e d) (inS e d) s:=by cases d<;>rfl
theorem una_step {D:Nat} (hP:COk 256 (cPrim D)) (hU:COk 242 (cUna D)):COk 242 (cUna (D+1)):=by
 rintro args K k ⟨d,e,ts,ns,mo,op,X,rfl,rfl,ho,hd,hf,hk⟩
 refine frameP (G:=gput 256 (cPrim D) (gput 242 (cUna D) g7)) (gput_ok hP (gput_ok hU g7_ok)) 9 rfl fun Q hr hp=>?_
 rw [unaS_eq] at hk
 cases ts with
 | nil =>
  conv=>whnf
  refine⟨by simp,?_⟩
  conv=>whnf
  refine⟨_,_,_,_,_,_,_,rfl,rfl,?_⟩
  conv=>whnf
  refine⟨_,_,_,_,_,_,_,rfl,rfl,?_⟩
  conv=>whnf
  refine⟨_,_,_,_,_,_,_,rfl,rfl,ho,by omega,hf,⟨fun a ts' ns' mo' h=>?_,fun a er h=>?_⟩⟩
  ·conv=>whnf
   exact hr _ _ _ _ _ _ rfl rfl (hk.ok _ _ _ _ h)
  ·conv=>whnf
   exact hp _ _ rfl (hk.bad _ _ h)
 | cons t r =>
  conv=>whnf
  refine⟨by simp;omega,?_⟩
  conv=>whnf
  refine⟨_,_,_,_,_,_,_,rfl,rfl,?_⟩
  conv=>whnf
  refine two_intro (fun h1=>?_) (fun h1=>?_)
  ·have h1:isS [45] (t::r)=false:=nt h1
   conv=>whnf
   refine⟨_,_,_,_,_,_,_,rfl,rfl,?_⟩
   conv=>whnf
   refine two_intro (fun h2=>?_) (fun h2=>?_)
   ·have h2:isS [33] (t::r)=false:=nt h2
    simp only [unaB,h1,h2,Bool.or_false] at hk
    conv=>whnf
    refine⟨_,_,_,_,_,_,_,rfl,rfl,ho,by omega,hf,⟨fun a ts' ns' mo' h=>?_,fun a er h=>?_⟩⟩
    ·conv=>whnf
     exact hr _ _ _ _ _ _ rfl rfl (hk.ok _ _ _ _ h)
    ·conv=>whnf
     exact hp _ _ rfl (hk.bad _ _ h)
   ·have h2:isS [33] (t::r)=true:=nf h2
    simp only [unaB,h1,h2,Bool.or_true] at hk
    have hs:=isS_self h2
    conv=>whnf
    refine⟨_,_,_,_,_,_,_,rfl,rfl,?_⟩
    conv=>whnf
    refine two_true hs ?_
    conv=>whnf
    cases d with
    | zero =>
     refine two_intro (fun h3=>?_) (fun h3=>?_)
     ·conv=>whnf
      refine⟨_,_,_,_,_,_,_,rfl,rfl,?_⟩
      conv=>whnf
      exact hp _ _ rfl (hk.bad _ _ (by simp [withinS,hs,R.bind]))
     ·simp [ho] at h3
    | succ d =>
     refine two_intro (fun h3=>?_) (fun h3=>?_)
     ·simp [ho] at h3;omega
     ·conv=>whnf
      refine⟨_,_,_,_,_,_,_,rfl,rfl,⟨fun a ts' ns' mo' h=>?_,fun a er h=>?_⟩⟩
      ·simp only [wantS,hs,dropS,R.ok.injEq,PS.mk.injEq] at h
       obtain⟨-,rfl,rfl,rfl⟩:=h
       conv=>whnf
       have hd2:d<1000:=by have:=hf.1;omega
       refine⟨d,_,_,_,_,_,_,rfl,rfl,in_op ho hd2,by omega,?_,⟨fun a ts' ns' mo' h=>?_,fun a er h=>?_⟩⟩
       ·simp only [Fine,List.length_cons,List.tail_cons] at hf ⊢;omega
       ·rw [in_mo ho hd2] at h
        simp only [List.tail_cons] at h
        have hl:=una_le e d _ _ _ h
        conv=>whnf
        refine⟨[a],_,_,_,_,_,_,_,_,_,_,_,rfl,rfl,PutK.slr ?_ rfl rfl rfl (allLt_ok ⟨trivial,rfl⟩) ?_⟩
        ·simp only [Fine,Lw,List.length_cons] at hf hl;omega
        conv=>whnf
        rw [out_op ho hd2]
        exact hr _ _ _ _ _ _ rfl rfl (hk.ok _ _ _ _ (by simp [withinS,hs,R.bind,h,putS]))
       ·rw [in_mo ho hd2] at h
        simp only [List.tail_cons] at h
        conv=>whnf
        exact hp _ _ rfl (hk.bad _ _ (by simp [withinS,hs,R.bind,h]))
      ·simp [wantS,hs] at h
  ·have h1:isS [45] (t::r)=true:=nf h1
   simp only [unaB,h1,Bool.true_or] at hk
   have hs:=isS_self h1
   conv=>whnf
   refine⟨_,_,_,_,_,_,_,rfl,rfl,?_⟩
   conv=>whnf
   refine two_true hs ?_
   conv=>whnf
   cases d with
   | zero =>
    refine two_intro (fun h3=>?_) (fun h3=>?_)
    ·conv=>whnf
     refine⟨_,_,_,_,_,_,_,rfl,rfl,?_⟩
     conv=>whnf
     exact hp _ _ rfl (hk.bad _ _ (by simp [withinS,hs,R.bind]))
    ·simp [ho] at h3
   | succ d =>
    refine two_intro (fun h3=>?_) (fun h3=>?_)
    ·simp [ho] at h3;omega
    ·conv=>whnf
     refine⟨_,_,_,_,_,_,_,rfl,rfl,⟨fun a ts' ns' mo' h=>?_,fun a er h=>?_⟩⟩
     ·simp only [wantS,hs,dropS,R.ok.injEq,PS.mk.injEq] at h
      obtain⟨-,rfl,rfl,rfl⟩:=h
      conv=>whnf
      have hd2:d<1000:=by have:=hf.1;omega
      refine⟨d,_,_,_,_,_,_,rfl,rfl,in_op ho hd2,by omega,?_,⟨fun a ts' ns' mo' h=>?_,fun a er h=>?_⟩⟩
      ·simp only [Fine,List.length_cons,List.tail_cons] at hf ⊢;omega
      ·rw [in_mo ho hd2] at h
       simp only [List.tail_cons] at h
       have hl:=una_le e d _ _ _ h
       conv=>whnf
       refine⟨[a],_,_,_,_,_,_,_,_,_,_,_,rfl,rfl,PutK.slr ?_ rfl rfl rfl (allLt_ok ⟨trivial,rfl⟩) ?_⟩
       ·simp only [Fine,Lw,List.length_cons] at hf hl;omega
       conv=>whnf
       rw [out_op ho hd2]
       exact hr _ _ _ _ _ _ rfl rfl (hk.ok _ _ _ _ (by simp [withinS,hs,R.bind,h,putS]))
      ·rw [in_mo ho hd2] at h
       simp only [List.tail_cons] at h
       conv=>whnf
       exact hp _ _ rfl (hk.bad _ _ (by simp [withinS,hs,R.bind,h]))
     ·simp [wantS,hs] at h
def cIndex (D:Nat):AC:=fun args K k=>∃ d:Nat,∃ e ts ns mo op X,args=[pp]∧K=encP e ts ns op mo++X∧op=40 - (d:Int)∧d≤D∧Fine d ts ns∧After e (indexS e d ⟨ts,ns,mo⟩) intV op X k
theorem index_ok {D:Nat} (hE:COk 229 (cExJ D 6)):COk 260 (cIndex D):=by
 rintro args K k ⟨d,e,ts,ns,mo,op,X,rfl,rfl,ho,hd,hf,hk⟩
 refine frameP (G:=gput 229 (cExJ D 6) g7) (gput_ok hE g7_ok) 9 rfl fun Q hr hp=>?_
 conv=>whnf
 by_cases hw:isS [91] ts=true
 ·refine⟨_,_,_,_,_,_,_,rfl,rfl,?_⟩
  conv=>whnf
  refine two_true hw ?_
  conv=>whnf
  cases d with
  | zero =>
   refine two_intro (fun h3=>?_) (fun h3=>?_)
   ·conv=>whnf
    refine⟨_,_,_,_,_,_,_,rfl,rfl,?_⟩
    conv=>whnf
    exact hp _ _ rfl (hk.bad _ _ (by simp [indexS,withinS,hw,R.bind]))
   ·simp [ho] at h3
  | succ d =>
   refine two_intro (fun h3=>?_) (fun h3=>?_)
   ·simp [ho] at h3;omega
   ·conv=>whnf
    refine⟨_,_,_,_,_,_,_,rfl,rfl,⟨fun a ts' ns' mo' h=>?_,fun a er h=>?_⟩⟩
    ·simp only [wantS,hw,dropS,R.ok.injEq,PS.mk.injEq] at h
     obtain⟨-,rfl,rfl,rfl⟩:=h
     conv=>whnf
     have hd2:d<1000:=by have:=hf.1;omega
     have hl0:=isS_pos hw
     refine⟨d,5,_,_,_,_,_,_,_,rfl,rfl,in_op ho hd2,rfl,by omega,by omega,by omega,?_,⟨fun x ts' ns' mo' h=>?_,fun a er h=>?_⟩⟩
     ·simp only [Fine,List.length_cons,List.length_tail] at hf hl0 ⊢;omega
     ·rw [in_mo ho hd2] at h
      have hl:=ex_le e d _ _ _ h
      conv=>whnf
      refine⟨_,_,_,_,_,_,_,rfl,rfl,⟨fun u ts2 ns2 mo2 h2=>?_,fun a er h2=>?_⟩⟩
      ·have hl2:=want_le _ _ _ _ _ h2
       conv=>whnf
       rw [out_op ho hd2]
       exact hr _ _ _ _ _ _ rfl rfl (hk.ok _ _ _ _ (by
        have h:inS e (d+1) _=_:=h
        have h2:wantS e [93] _=_:=h2
        simp only [indexS,withinS,hw,h,h2,R.bind]))
      ·conv=>whnf
       exact hp _ _ rfl (hk.bad _ _ (by
        have h:inS e (d+1) _=_:=h
        have h2:wantS e [93] _=_:=h2
        simp only [indexS,withinS,hw,h,h2,R.bind]))
     ·rw [in_mo ho hd2] at h
      conv=>whnf
      exact hp _ _ rfl (hk.bad _ _ (by
       have h:inS e (d+1) _=_:=h
       simp only [indexS,withinS,hw,h,R.bind]))
    ·simp [wantS,hw] at h
 ·have hw:isS [91] ts=false:=by simpa using hw
  refine⟨_,_,_,_,_,_,_,rfl,rfl,?_⟩
  conv=>whnf
  refine two_false hw ?_
  conv=>whnf
  refine⟨_,_,_,_,_,_,_,rfl,rfl,⟨fun a ts' ns' mo' h=>?_,fun a er h=>?_⟩⟩
  ·simp [wantS,hw] at h
  ·simp only [wantS,hw,R.bad.injEq] at h
   obtain⟨rfl,rfl⟩:=h
   conv=>whnf
   exact hp _ _ rfl (hk.bad _ _ (by simp only [indexS,withinS,hw]))
theorem prim_ok {D:Nat} (hE:COk 229 (cExJ D 6)):COk 256 (cPrim D):=by
 rintro args K k ⟨d,e,ts,ns,mo,op,X,rfl,rfl,ho,hd,hf,hk⟩
 refine frameP (G:=gput 260 (cIndex D) (gput 229 (cExJ D 6) g7)) (gput_ok (index_ok hE) (gput_ok hE g7_ok)) 9 rfl fun Q hr hp=>?_
 cases ts with
 | nil =>
  conv=>whnf
  refine⟨by simp,?_⟩
  conv=>whnf
  refine⟨_,_,_,_,_,_,_,rfl,rfl,⟨fun h=>by simp [isS] at h,fun _=>?_⟩⟩
  conv=>whnf
  refine⟨_,_,_,_,_,_,_,rfl,rfl,⟨fun h=>by simp [isS] at h,fun _=>?_⟩⟩
  conv=>whnf
  refine⟨_,_,_,_,_,_,_,rfl,rfl,⟨fun h=>by simp [isS] at h,fun _=>?_⟩⟩
  conv=>whnf
  refine⟨_,_,_,_,_,_,_,rfl,rfl,⟨fun h=>by simp [isS] at h,fun _=>?_⟩⟩
  conv=>whnf
  refine⟨_,_,_,_,_,_,_,rfl,rfl,?_⟩
  conv=>whnf
  refine⟨_,_,_,_,_,_,rfl,rfl,⟨fun a ts' ns' mo' h=>by simp [identS] at h,fun a er h=>?_⟩⟩
  simp only [identS,R.bad.injEq] at h
  obtain⟨rfl,rfl⟩:=h
  conv=>whnf
  exact hp _ _ rfl (hk.bad _ _ rfl)
 | cons t r =>
  obtain⟨tk,tn,ta,tx⟩:=t
  have hn:ns.length<1000000:=by simp only [Fine] at hf;omega
  cases tk with
  | number =>
   conv=>whnf
   refine⟨by simp;omega,?_⟩
   conv=>whnf
   refine⟨_,_,_,_,_,_,_,rfl,rfl,?_⟩
   conv=>whnf
   refine⟨[],_,_,_,_,_,_,_,_,_,_,_,rfl,rfl,PutK.nils hn ?_⟩
   conv=>whnf
   exact hr _ _ _ _ _ _ rfl rfl (hk.ok _ _ _ _ rfl)
  | name =>
   conv=>whnf
   refine⟨by simp;omega,?_⟩
   conv=>whnf
   refine⟨_,_,_,_,_,_,_,rfl,rfl,⟨fun h=>by simp [isS] at h,fun _=>?_⟩⟩
   conv=>whnf
   refine⟨_,_,_,_,_,_,_,rfl,rfl,⟨fun h=>by simp [isS] at h,fun _=>?_⟩⟩
   conv=>whnf
   refine⟨_,_,_,_,_,_,_,rfl,rfl,⟨fun h=>by simp [isS] at h,fun _=>?_⟩⟩
   conv=>whnf
   refine⟨_,_,_,_,_,_,_,rfl,rfl,⟨fun h=>by simp [isS] at h,fun _=>?_⟩⟩
   conv=>whnf
   refine⟨_,_,_,_,_,_,_,rfl,rfl,?_⟩
   conv=>whnf
   refine⟨_,_,_,_,_,_,rfl,rfl,⟨fun a ts' ns' mo' h=>?_,fun a er h=>by simp [identS] at h⟩⟩
   simp only [identS,R.ok.injEq,PS.mk.injEq] at h
   obtain⟨rfl,rfl,rfl,rfl⟩:=h
   conv=>whnf
   refine⟨_,_,_,_,_,_,_,rfl,rfl,?_⟩
   conv=>whnf
   refine two_intro (fun h1=>?_) (fun h1=>?_)
   ·have h1:isS [91] r=true:=h1
    simp only [primS,h1] at hk
    conv=>whnf
    refine⟨d,_,_,_,_,_,_,rfl,rfl,ho,hd,?_,⟨fun x ts' ns' mo' h=>?_,fun a er h=>?_⟩⟩
    ·simp only [Fine,List.length_cons] at hf ⊢;omega
    ·have hl:=index_le _ _ _ _ _ h
     conv=>whnf
     refine⟨[x],_,_,_,_,_,_,_,_,_,_,_,rfl,rfl,PutK.slr ?_ rfl rfl rfl (allLt_ok ⟨trivial,rfl⟩) ?_⟩
     ·simp only [Fine,Lw,List.length_cons] at hf hl;omega
     conv=>whnf
     exact hr _ _ _ _ _ _ rfl rfl (hk.ok _ _ _ _ (by
      have h:withinS e d [91] [93] (inS e d) _=_:=h
      simp only [h,R.bind,putS]))
    ·conv=>whnf
     exact hp _ _ rfl (hk.bad _ _ (by
      have h:withinS e d [91] [93] (inS e d) _=_:=h
      simp only [h,R.bind]))
   ·have h1:isS [91] r=false:=h1
    simp only [primS,h1] at hk
    conv=>whnf
    refine⟨[],_,_,_,_,_,_,_,_,_,_,_,rfl,rfl,PutK.nils hn ?_⟩
    conv=>whnf
    exact hr _ _ _ _ _ _ rfl rfl (hk.ok _ _ _ _ rfl)
  | _ =>
   conv=>whnf
   refine⟨by simp;omega,?_⟩
   conv=>whnf
   refine⟨_,_,_,_,_,_,_,rfl,rfl,⟨fun h=>?_,fun h=>?_⟩⟩
   ·have g0:(tx==[116,114,117,101])=true:=h
    simp only [primS,g0] at hk
    conv=>whnf
    refine⟨[],_,_,_,_,_,_,_,_,_,_,_,rfl,rfl,PutK.nils hn ?_⟩
    conv=>whnf
    exact hr _ _ _ _ _ _ rfl rfl (hk.ok _ _ _ _ rfl)
   have g0:(tx==[116,114,117,101])=false:=h
   conv=>whnf
   refine⟨_,_,_,_,_,_,_,rfl,rfl,⟨fun h=>?_,fun h=>?_⟩⟩
   ·have g1:(tx==[102,97,108,115,101])=true:=h
    simp only [primS,g0,g1] at hk
    conv=>whnf
    refine⟨[],_,_,_,_,_,_,_,_,_,_,_,rfl,rfl,PutK.nils hn ?_⟩
    conv=>whnf
    exact hr _ _ _ _ _ _ rfl rfl (hk.ok _ _ _ _ rfl)
   have g1:(tx==[102,97,108,115,101])=false:=h
   conv=>whnf
   refine⟨_,_,_,_,_,_,_,rfl,rfl,⟨fun h=>?_,fun h=>?_⟩⟩
   ·have g2:(tx==[108,101,110])=true:=h
    simp only [primS,g0,g1,g2] at hk
    conv=>whnf
    refine⟨_,_,_,_,_,_,rfl,rfl,⟨fun t' ts' ns' mo' h=>?_,fun a er h=>?_⟩⟩
    ·have hl:=ident_le _ _ _ _ h
     have h:identS e ⟨r,ns,mo⟩=_:=h
     conv=>whnf
     refine⟨by conv=>whnf,?_⟩
     conv=>whnf
     refine⟨by conv=>whnf,?_⟩
     conv=>whnf
     refine⟨[],_,_,_,_,_,_,_,_,_,_,_,rfl,rfl,PutK.nils (by simp only [Fine,Lw,List.length_cons,List.length_tail] at hf hl;omega) ?_⟩
     conv=>whnf
     exact hr _ _ _ _ _ _ rfl rfl (hk.ok _ _ _ _ (by simp only [h,R.bind,putS]))
    ·have h:identS e ⟨r,ns,mo⟩=_:=h
     conv=>whnf
     exact hp _ _ rfl (hk.bad _ _ (by simp only [h,R.bind]))
   have g2:(tx==[108,101,110])=false:=h
   conv=>whnf
   refine⟨_,_,_,_,_,_,_,rfl,rfl,⟨fun h=>?_,fun h=>?_⟩⟩
   ·have g3:(tx==[38])=true:=h
    simp only [primS,g0,g1,g2,g3] at hk
    conv=>whnf
    refine⟨_,_,_,_,_,_,rfl,rfl,⟨fun t' ts' ns' mo' h=>?_,fun a er h=>?_⟩⟩
    ·have hl:=ident_le _ _ _ _ h
     have h:identS e ⟨r,ns,mo⟩=_:=h
     conv=>whnf
     refine⟨by conv=>whnf,?_⟩
     conv=>whnf
     refine⟨by conv=>whnf,?_⟩
     conv=>whnf
     refine⟨[],_,_,_,_,_,_,_,_,_,_,_,rfl,rfl,PutK.nils (by simp only [Fine,Lw,List.length_cons,List.length_tail] at hf hl;omega) ?_⟩
     conv=>whnf
     exact hr _ _ _ _ _ _ rfl rfl (hk.ok _ _ _ _ (by simp only [h,R.bind,putS]))
    ·have h:identS e ⟨r,ns,mo⟩=_:=h
     conv=>whnf
     exact hp _ _ rfl (hk.bad _ _ (by simp only [h,R.bind]))
   have g3:(tx==[38])=false:=h
   conv=>whnf
   refine⟨_,_,_,_,_,_,_,rfl,rfl,?_⟩
   conv=>whnf
   refine two_intro (fun h=>?_) (fun h=>?_)
   ·have g4:(tx==[40])=true:=h
    simp only [primS,g0,g1,g2,g3,g4] at hk
    have hw:isS [40] (⟨_,tn,ta,tx⟩::r)=true:=h
    conv=>whnf
    refine⟨_,_,_,_,_,_,_,rfl,rfl,?_⟩
    conv=>whnf
    refine two_true hw ?_
    conv=>whnf
    cases d with
    | zero =>
     refine two_intro (fun h3=>?_) (fun h3=>?_)
     ·conv=>whnf
      refine⟨_,_,_,_,_,_,_,rfl,rfl,?_⟩
      conv=>whnf
      exact hp _ _ rfl (hk.bad _ _ (by simp [withinS,hw,R.bind]))
     ·simp [ho] at h3
    | succ d =>
     refine two_intro (fun h3=>?_) (fun h3=>?_)
     ·simp [ho] at h3;omega
     ·conv=>whnf
      refine⟨_,_,_,_,_,_,_,rfl,rfl,⟨fun a ts' ns' mo' h=>?_,fun a er h=>?_⟩⟩
      ·simp only [wantS,hw,dropS,R.ok.injEq,PS.mk.injEq] at h
       obtain⟨-,rfl,rfl,rfl⟩:=h
       conv=>whnf
       have hd2:d<1000:=by have:=hf.1;omega
       have hl0:=isS_pos hw
       refine⟨d,5,_,_,_,_,_,_,_,rfl,rfl,in_op ho hd2,rfl,by omega,by omega,by omega,?_,⟨fun x ts' ns' mo' h=>?_,fun a er h=>?_⟩⟩
       ·simp only [Fine,List.length_cons,List.length_tail] at hf hl0 ⊢;omega
       ·rw [in_mo ho hd2] at h
        have hl:=ex_le e d _ _ _ h
        conv=>whnf
        refine⟨_,_,_,_,_,_,_,rfl,rfl,⟨fun u ts2 ns2 mo2 h2=>?_,fun a er h2=>?_⟩⟩
        ·have hl2:=want_le _ _ _ _ _ h2
         conv=>whnf
         rw [out_op ho hd2]
         exact hr _ _ _ _ _ _ rfl rfl (hk.ok _ _ _ _ (by
          have h:inS e (d+1) _=_:=h
          have h2:wantS e [41] _=_:=h2
          simp only [withinS,hw,h,h2,R.bind]))
        ·conv=>whnf
         exact hp _ _ rfl (hk.bad _ _ (by
          have h:inS e (d+1) _=_:=h
          have h2:wantS e [41] _=_:=h2
          simp only [withinS,hw,h,h2,R.bind]))
       ·rw [in_mo ho hd2] at h
        conv=>whnf
        exact hp _ _ rfl (hk.bad _ _ (by
         have h:inS e (d+1) _=_:=h
         simp only [withinS,hw,h,R.bind]))
      ·simp [wantS,hw] at h
   ·have g4:(tx==[40])=false:=h
    simp only [primS,g0,g1,g2,g3,g4] at hk
    conv=>whnf
    refine⟨_,_,_,_,_,_,rfl,rfl,⟨fun a ts' ns' mo' h=>by simp [identS] at h,fun a er h=>?_⟩⟩
    simp only [identS,R.bad.injEq] at h
    obtain⟨rfl,rfl⟩:=h
    conv=>whnf
    exact hp _ _ rfl (hk.bad _ _ rfl)
structure LS where
 x:Int
 ts:List Tok
 ns:List Nd
 mo:Int
 n:Nat
theorem rowLoop_no {l:List Bs} {o:M Int} {n:Nat} {x:Int} {s:PS} (h:anyS l s.ts=false):rowLoop l o n x s=.ok x s:=by
 cases n with
 | zero=>rfl
 | succ n =>
  unfold rowLoop
  split
  ·rfl
  ·rename_i t r ht
   rw [ht] at h
   rw [h]
theorem anyS_cons {l:List Bs} {ts:List Tok} (h:anyS l ts=true):∃ t r,ts=t::r:=by
 cases ts with
 | nil =>
  induction l with
  | nil=>simp [anyS] at h
  | cons w l ih =>
   simp only [anyS,List.any_cons,isS,Bool.false_or] at h ih
   exact ih h
 | cons t r=>exact⟨t,r,rfl⟩
theorem rowS_len (j:Nat):(rowS j).length<1000:=by
 unfold rowS
 split<;>simp
theorem expr_step {D J:Nat} (hU:COk 242 (cUna D)) (hE:COk 229 (cExJ D J)):COk 229 (cExJ D (J+1)):=by
 rintro args K k ⟨d,j,e,ts,ns,mo,op,kk,X,rfl,rfl,ho,hkk,hd,hj,hJ,hf,hk⟩
 refine frameP (gE_ok hU hE) 9 rfl fun Q hr hp=>?_
 cases j with
 | zero =>
  conv=>whnf
  refine two_true (by simp;omega) ?_
  conv=>whnf
  refine⟨d,_,_,_,_,_,_,rfl,rfl,ho,hd,hf,⟨fun x ts' ns' mo' h=>?_,fun a er h=>?_⟩⟩
  ·conv=>whnf
   exact hr _ _ _ _ _ _ rfl rfl (hk.ok _ _ _ _ h)
  ·conv=>whnf
   exact hp _ _ rfl (hk.bad _ _ h)
 | succ j =>
  conv=>whnf
  refine two_false (by simp;omega) ?_
  conv=>whnf
  refine⟨d,j,_,_,_,_,_,_,_,rfl,rfl,ho,by rw [w64 (by omega)];omega,hd,by omega,by omega,hf,⟨fun x ts' ns' mo' h=>?_,fun a er h=>?_⟩⟩
  ·conv=>whnf
   have hl:=expr_le (una_le e d) j _ _ _ h
   have h0:exprS (unaS e d) (j+1) ⟨ts,ns,mo⟩=rowLoop (rowS j) (exprS (unaS e d) j) ts'.length x ⟨ts',ns',mo'⟩:=by
    simp only [exprS,h,R.bind]
   rw [h0] at hk
   generalize hR0:rowLoop (rowS j) (exprS (unaS e d) j) ts'.length x ⟨ts',ns',mo'⟩=R0 at hk
   refine loop_by (ι:=LS) (fun i=>⟨[(0,pp),(1,.p (.int .i64 kk)),(5,intV i.x)],encP e i.ts i.ns op i.mo⟩)
    (fun i=>i.ts.length≤i.n∧i.ns.length+4*i.ts.length≤900000∧rowLoop (rowS j) (exprS (unaS e d) j) i.n i.x ⟨i.ts,i.ns,i.mo⟩=R0)
    (fun i=>i.ts.length) ⟨x,ts',ns',mo',ts'.length⟩ ⟨AV.le_refl _,AV.le_refl _,AV.le_refl _,trivial⟩ (lesK.refl _) ⟨Nat.le_refl _,?_,?_⟩ ?_
   ·simp only [Fine,Lw] at hf hl ⊢;omega
   ·exact hR0
   have hd4:=hf.1
   clear hR0 h h0 hl hf
   rintro Y hle ⟨x,ts,ns,mo,n⟩ ⟨hn,hb,hR⟩ ih
   simp only at hn hb hR
   conv=>whnf
   refine⟨j,kk,by omega,rfl,by omega,?_⟩
   conv=>whnf
   refine⟨_,_,_,_,_,_,_,rfl,rfl,rowS_len j,?_⟩
   conv=>whnf
   refine two_intro (fun h1=>?_) (fun h1=>?_)
   ·obtain⟨t,r,rfl⟩:=anyS_cons h1
    conv=>whnf
    refine⟨_,_,_,_,_,_,_,rfl,rfl,?_⟩
    conv=>whnf
    cases n with
    | zero=>simp at hn
    | succ n =>
    simp only [List.length_cons] at hn hb
    refine⟨d,j,_,_,_,_,_,_,_,rfl,rfl,ho,by rw [w64 (by omega)];omega,hd,by omega,by omega,⟨hd4,by show ns.length+4*r.length≤900000;omega⟩,⟨fun y ts2 ns2 mo2 h=>?_,fun a er h=>?_⟩⟩
    ·have hl:=expr_le (una_le e d) j _ _ _ h
     simp only [Lw] at hl
     conv=>whnf
     refine⟨[x,y],_,_,_,_,_,_,_,_,_,_,_,rfl,rfl,PutK.slr ?_ rfl rfl rfl (allLt_ok ⟨⟨trivial,rfl⟩,rfl⟩) ?_⟩
     ·omega
     conv=>whnf
     refine hle _ _ (AE.Le.cutEnv 2 rfl rfl ⟨rfl,fun i _=>rfl,trivial⟩ ?_ (lesK.refl _)) (ih ⟨ns2.length,ts2,ns2++[⟨27,0,t.at_,t.tx,[x,y]⟩],mo2,n⟩ ?_ ⟨?_,?_,?_⟩)
     ·exact⟨AV.le_refl _,AV.le_refl _,AV.le_refl _,trivial⟩
     ·simp only [List.length_cons];omega
     ·simp only;omega
     ·simp only [List.length_append,List.length_cons,List.length_nil];omega
     ·rw [← hR]
      simp only at h
      have h1:anyS (rowS j) (t::r)=true:=h1
      simp only [rowLoop,h1,h,R.bind,putS]
    ·simp only at h
     have h1:anyS (rowS j) (t::r)=true:=h1
     simp only [rowLoop,h1,h,R.bind] at hR
     subst hR
     conv=>whnf
     exact hp _ _ rfl (hk.bad _ _ rfl)
   ·rw [rowLoop_no h1] at hR
    subst hR
    conv=>whnf
    exact hr _ _ _ _ _ _ rfl rfl (hk.ok _ _ _ _ rfl)
  ·conv=>whnf
   exact hp _ _ rfl (hk.bad _ _ (by simp only [exprS,h,R.bind]))
theorem exJ_zero (D:Nat):COk 229 (cExJ D 0):=by
 rintro args K k ⟨d,j,e,ts,ns,mo,op,kk,X,-,-,-,-,-,hj,-⟩
 omega
theorem all_ok (D:Nat):COk 242 (cUna D)∧COk 229 (cExJ D 6)∧COk 256 (cPrim D):=by
 have hx:∀ D,COk 242 (cUna D)→COk 229 (cExJ D 6):=fun D hU =>
  expr_step hU (expr_step hU (expr_step hU (expr_step hU (expr_step hU (expr_step hU (exJ_zero D))))))
 induction D with
 | zero =>
  have h0:COk 242 (cUna 0):=by
   rintro args K k ⟨d,e,ts,ns,mo,op,X,-,-,-,h,-⟩
   omega
  exact⟨h0,hx 0 h0,prim_ok (hx 0 h0)⟩
 | succ D ih =>
  have h1:=una_step ih.2.2 ih.1
  exact⟨h1,hx _ h1,prim_ok (hx _ h1)⟩
theorem bindA {α β γ:Type} (r:R α) (f:α→PS→R β) (g:β→PS→R γ):(r.bind f).bind g=r.bind fun a s=>(f a s).bind g:=by cases r<;>rfl
theorem bindO {α β:Type} (a:α) (s:PS) (f:α→PS→R β):(R.ok a s).bind f=f a s:=rfl
def AK {α:Type} (r:R α) (ok:α→PS→Prop) (bad:Int→Int→Prop):Prop:=match r with
 | .ok a s=>ok a s
 | .bad a e=>bad a e
theorem After.ak {α:Type} {e:Int} {r:R α} {val:α→AV} {op:Int} {X:List ABlk} {k:AO→List ABlk→Prop} (h:After e r val op X k) :
  AK r (fun a s=>k (.ret (val a)) (encP e s.ts s.ns op s.mo++X)) (fun a er=>k (.pan (wrongV a er)) (deads 2++X)):=by
 cases hr:r with
 | ok a s=>exact h.ok _ _ _ _ hr
 | bad a e=>exact h.bad _ _ hr
theorem AK.step {α β:Type} {r:R α} {f:α→PS→R β} {ok:β→PS→Prop} {bad:Int→Int→Prop} (h:AK (r.bind f) ok bad) {e:Int} {val:α→AV} {op:Int} {X:List ABlk} {k:AO→List ABlk→Prop}
  {p:PS→Prop} (hp:Okk r p)
  (h1:∀ a ts' ns' mo',p ⟨ts',ns',mo'⟩→AK (f a ⟨ts',ns',mo'⟩) ok bad→k (.ret (val a)) (encP e ts' ns' op mo'++X))
  (h2:∀ a er,bad a er→k (.pan (wrongV a er)) (deads 2++X)):After e r val op X k:=by
 cases r with
 | ok a s=>exact⟨fun a' ts' ns' mo' hr=>by injection hr with e1 e2;subst e1;subst e2;exact h1 _ _ _ _ (hp _ _ rfl) h,fun _ _ hr=>by simp at hr⟩
 | bad a er=>exact⟨fun _ _ _ _ hr=>by simp at hr,fun a' e' hr=>by injection hr with e1 e2;subst e1;subst e2;exact h2 _ _ h⟩
theorem AK.stepv {α β:Type} {r:R α} {f:α→PS→R β} {ok:β→PS→Prop} {bad:Int→Int→Prop} (h:AK (r.bind f) ok bad) {e:Int} {val:α→AV} {op:Int} {X:List ABlk} {k:AO→List ABlk→Prop}
  {p:α→PS→Prop} (hp:∀ a s,r=.ok a s→p a s)
  (h1:∀ a ts' ns' mo',p a ⟨ts',ns',mo'⟩→AK (f a ⟨ts',ns',mo'⟩) ok bad→k (.ret (val a)) (encP e ts' ns' op mo'++X))
  (h2:∀ a er,bad a er→k (.pan (wrongV a er)) (deads 2++X)):After e r val op X k:=by
 cases r with
 | ok a s=>exact⟨fun a' ts' ns' mo' hr=>by injection hr with e1 e2;subst e1;subst e2;exact h1 _ _ _ _ (hp _ _ rfl) h,fun _ _ hr=>by simp at hr⟩
 | bad a er=>exact⟨fun _ _ _ _ hr=>by simp at hr,fun a' e' hr=>by injection hr with e1 e2;subst e1;subst e2;exact h2 _ _ h⟩
theorem AK.last {β:Type} {r:R β} {ok:β→PS→Prop} {bad:Int→Int→Prop} (h:AK r ok bad) {e:Int} {val:β→AV} {op:Int} {X:List ABlk} {k:AO→List ABlk→Prop}
  (h1:∀ a ts' ns' mo',ok a ⟨ts',ns',mo'⟩→k (.ret (val a)) (encP e ts' ns' op mo'++X))
  (h2:∀ a er,bad a er→k (.pan (wrongV a er)) (deads 2++X)):After e r val op X k:=by
 cases r with
 | ok a s=>exact⟨fun a' ts' ns' mo' hr=>by injection hr with e1 e2;subst e1;subst e2;exact h1 _ _ _ _ h,fun _ _ hr=>by simp at hr⟩
 | bad a er=>exact⟨fun _ _ _ _ hr=>by simp at hr,fun a' e' hr=>by injection hr with e1 e2;subst e1;subst e2;exact h2 _ _ h⟩
theorem AK.within {α β:Type} {e:Int} {d:Nat} {op cl:Bs} {what:M α} {ts:List Tok} {ns:List Nd} {mo:Int} {f:α→PS→R β} {ok:β→PS→Prop} {bad:Int→Int→Prop}
  (h:AK ((withinS e (d+1) op cl what ⟨ts,ns,mo⟩).bind f) ok bad) (hw:isS op ts=true) (hc:cl≠[]) :
  AK ((what ⟨ts.tail,ns,moreS (d+1) mo⟩).bind fun a s=>(wantS e cl s).bind fun _ s=>f a s) ok bad:=by
 simp only [withinS,hw] at h
 generalize what ⟨ts.tail,ns,moreS (d+1) mo⟩=r at h ⊢
 cases r with
 | bad a e=>exact h
 | ok a s =>
  simp only [R.bind] at h ⊢
  cases cl with
  | nil=>exact absurd rfl hc
  | cons c l =>
   generalize wantS e (c::l) s=r at h ⊢
   cases r<;>exact h
theorem AK.within_no {α β:Type} {e:Int} {d:Nat} {op cl:Bs} {what:M α} {ts:List Tok} {ns:List Nd} {mo:Int} {f:α→PS→R β} {ok:β→PS→Prop} {bad:Int→Int→Prop}
  (h:AK ((withinS e d op cl what ⟨ts,ns,mo⟩).bind f) ok bad) (hw:isS op ts=false):bad (hd e ts) 2:=by
 simp only [withinS,hw] at h;exact h
theorem AK.within_deep {α β:Type} {e:Int} {op cl:Bs} {what:M α} {ts:List Tok} {ns:List Nd} {mo:Int} {f:α→PS→R β} {ok:β→PS→Prop} {bad:Int→Int→Prop}
  (h:AK ((withinS e 0 op cl what ⟨ts,ns,mo⟩).bind f) ok bad) (hw:isS op ts=true):bad (hd e ts) 6:=by
 simp only [withinS,hw] at h;exact h
def cEx:AC:=fun args K k=>∃ d:Nat,∃ e ts ns mo op X,args=[pp,.p (.int .i64 0)]∧K=encP e ts ns op mo++X∧op=40 - (d:Int)∧Fine d ts ns∧After e (exS e d ⟨ts,ns,mo⟩) intV op X k
theorem ex_ok:COk 229 cEx:=by
 rintro args K k ⟨d,e,ts,ns,mo,op,X,rfl,rfl,ho,hf,hk⟩
 have:=hf.1
 exact (all_ok 41).2.1 _ _ _ ⟨d,5,e,ts,ns,mo,op,0,X,rfl,rfl,ho,rfl,by omega,by omega,by omega,hf,hk⟩
theorem idx_ok':COk 260 (cIndex 41):=index_ok (all_ok 41).2.1
structure Fin (d c:Nat) (ts:List Tok) (ns:List Nd):Prop where
 d:d≤40
 s:ns.length+4*ts.length+c≤900000
theorem Fine.fin {d:Nat} {ts:List Tok} {ns:List Nd} (h:Fine d ts ns):Fin d 0 ts ns:=⟨h.1,h.2⟩
theorem Fin.fine {d c:Nat} {ts:List Tok} {ns:List Nd} (h:Fin d c ts ns):Fine d ts ns:=⟨h.1,by have:=h.2;omega⟩
theorem Fin.sz {d c:Nat} {ts:List Tok} {ns:List Nd} (h:Fin d c ts ns):ns.length<1000000:=by have:=h.2;omega
theorem Fin.st {d c c' k:Nat} {ts ts':List Tok} {ns ns':List Nd} {mo mo':Int} (h:Fin d c ts ns) (hl:Lw ⟨ts,ns,mo⟩ c' k ⟨ts',ns',mo'⟩):Fin d (c+c') ts' ns' :=
 ⟨h.1,by have:=h.2;have:=hl.1;simp only at this;omega⟩
theorem Fin.pt {d c:Nat} {ts:List Tok} {ns:List Nd} {n:Nd} (h:Fin d (c+1) ts ns):Fin d c ts (ns++[n]):=⟨h.1,by have:=h.2;simp only [List.length_append,List.length_cons,List.length_nil];omega⟩
theorem Fin.opn {d c:Nat} {ts:List Tok} {ns:List Nd} {w:Bs} (h:Fin (d+1) c ts ns) (hw:isS w ts=true):Fin d (c+4) ts.tail ns :=
 ⟨by have:=h.1;omega,by have:=h.2;have:=isS_pos hw;simp only [List.length_tail];omega⟩
theorem Fin.sk {d c:Nat} {ts:List Tok} {ns:List Nd} {w:Bs} (h:Fin d c ts ns) (hw:isS w ts=true):Fin d (c+4) ts.tail ns :=
 ⟨h.1,by have:=h.2;have:=isS_pos hw;simp only [List.length_tail];omega⟩
theorem Fin.lo {d c c':Nat} {ts:List Tok} {ns:List Nd} (h:Fin d c ts ns) (hc:c'≤c):Fin d c' ts ns:=⟨h.1,by have:=h.2;omega⟩
end Go.Proofs.YtojjkleplnijaaaGreatDoor
