/-
  On the way to what follows: part 6 of 0.
-/
import Derived.Test.YtcmepkfefoidcaaGreatDoorPk3
import Derived.Test.YtcmepkfefoidcaaGreatDoorPk4
import Derived.Test.YtcmepkfefoidcaaGreatDoorPk5
set_option linter.unusedVariables false
set_option linter.unusedSimpArgs false
namespace Go.AE
theorem fL_to {α:Type} {l:List α} {k:List α→Prop} (h:k l):fL l k:=(fL_eq l k).symm▸h
theorem fK_to {l:List ABlk} {k:List ABlk→Prop} (h:k l):fK l k:=(fK_eq l k).symm▸h
theorem fB_to {b:ABlk} {k:ABlk→Prop} (h:k b):fB b k:=(fB_eq b k).symm▸h
theorem nth_snoc {α:Type} (l:List α) (b:α):nth (snoc l b) (len l)=some b:=by
 induction l with
 | nil=>rfl
 | cons a l ih=>exact ih
theorem setN_snoc {α:Type} (l:List α) (b b':α):setN (snoc l b) (len l) b'=snoc l b':=by
 induction l with
 | nil=>rfl
 | cons a l ih=>simp only [snoc,len,setN];rw [ih]
theorem nth_setsnoc {α:Type} (l:List α) (b b':α):nth (setN (snoc l b) (len l) b') (len l)=some b':=by rw [setN_snoc,nth_snoc]
theorem snoc_app {α:Type} (l:List α) (b:α):snoc l b=l++[b]:=by
 induction l with
 | nil=>rfl
 | cons a l ih=>simp only [snoc,ih,List.cons_append]
theorem len_snoc {α:Type} (l:List α) (b:α):len (snoc l b)=len l+1:=by rw [snoc_app,len_length,len_length];simp
theorem len_setN {α:Type} (l:List α) (r:Nat) (b:α):len (setN l r b)=len l:=by
 induction l generalizing r with
 | nil=>rfl
 | cons a l ih=>cases r<;>simp [setN,len,ih]
theorem length_snoc {α:Type} (l:List α) (b:α):(snoc l b).length=l.length+1:=by rw [← len_length,len_snoc,len_length]
theorem length_setN {α:Type} (l:List α) (r:Nat) (b:α):(setN l r b).length=l.length:=by rw [← len_length,len_setN,len_length]
theorem lesK_eq {K K':List ABlk} (h:K=K'):lesK K K':=h▸lesK.refl K
end Go.AE
namespace Go.Proofs.YtcmepkfefoidcaaGreatDoor
open Go.AE Go.Ru
set_option maxRecDepth 100000
set_option maxHeartbeats 1000000
def strG (f:Bs→Option Nat) (κ:MK):Option AV:=match κ with
 | .s l=>match f l with
  | some j=>some (intV (j:Int))
  | none=>none
 | .i _ _=>none
def insF (f:Bs→Option Nat) (name:Bs) (i:Nat) (l:Bs):Option Nat:=match f l with
 | some j=>some j
 | none=>if l=name then some i else none
theorem strG_ins {f:Bs→Option Nat} {name:Bs} {i:Nat} (h:f name=none):insM (strG f) (.s name) (intV (i:Int))=strG (insF f name i):=by
 funext κ
 cases κ with
 | i q n=>simp [insM,strG]
 | s l =>
  by_cases e:l=name
  ·subst e;simp [insM,strG,insF,h]
  ·have:(MK.s l)≠MK.s name:=fun h=>e (by injection h)
   simp only [insM,this,if_false,strG,insF,e]
   cases f l<;>rfl
theorem insF_old {f:Bs→Option Nat} {name:Bs} {i j:Nat} (h:f name=some j):insF f name i=f:=by
 funext l
 unfold insF
 cases hl:f l with
 | some j=>rfl
 | none =>
  by_cases e:l=name
  ·subst e;rw [h] at hl;cases hl
  ·simp [e]
def cFirst:AC:=fun args K k=>∃ r name i f,args=[.mref r,.p (.str name),intV ((i:Nat):Int)]∧nth K r=some (.mp .str (strG f) [])∧k (.ret (.tup [])) (setN K r (.mp .str (strG (insF f name i)) []))
theorem setN_same {α:Type} {l:List α} {r:Nat} {b:α} (h:nth l r=some b):setN l r b=l:=by
 induction l generalizing r with
 | nil=>rfl
 | cons a l ih =>
  cases r with
  | zero=>simp only [nth,Option.some.injEq] at h;subst h;rfl
  | succ r=>simp only [setN,ih h]
theorem first_ok:COk 119 cFirst:=by
 rintro args K k ⟨r,name,i,f,rfl,hg,hk⟩
 refine call_ok g0_ok 19 _ _ _ _ ?_
 conv=>whnf
 ((first|refine fK_to ?_|refine fL_to ?_|refine fB_to ?_);conv=>whnf)
 rw [hg]
 conv=>whnf
 refine⟨fun a ha=>?_,fun hn=>?_⟩
 ·cases hf:f name with
  | none=>simp [strG,hf] at ha
  | some j =>
   have ha:a=intV (j:Int):=by simpa [strG,hf] using ha.symm
   subst ha
   rw [insF_old hf,setN_same hg] at hk
   conv=>whnf
   ((first|refine fK_to ?_|refine fL_to ?_|refine fB_to ?_);conv=>whnf)
   exact hk
 ·cases hf:f name with
  | some j=>simp [strG,hf] at hn
  | none =>
   rw [← strG_ins hf] at hk
   conv=>whnf
   rw [hg]
   conv=>whnf
   ((first|refine fK_to ?_|refine fL_to ?_|refine fB_to ?_);conv=>whnf)
   ((first|refine fK_to ?_|refine fL_to ?_|refine fB_to ?_);conv=>whnf)
   exact hk
structure TLC where
 i:Nat
 f:Nat→Int
 l:Int→Option Nat
 X:List ABlk
def locG (l:Int→Option Nat) (κ:MK):Option AV:=match κ with
 | .i q o=>if q=.i64 then (match l o with
  | some r=>some (.mref (r+6))
  | none=>none) else none
 | .s _=>none
theorem locG_ins {l:Int→Option Nat} {o:Int} {r:Nat}:insM (locG l) (.i .i64 o) (.mref (r+6))=locG (fun o'=>if o'=o then some r else l o'):=by
 funext κ
 cases κ with
 | s l=>simp [insM,locG]
 | i q o' =>
  unfold insM locG
  by_cases hq:q=.i64
  ·subst hq
   by_cases ho:o'=o
   ·subst ho;simp
   ·have:(MK.i .i64 o')≠MK.i .i64 o:=fun h=>ho (by injection h)
    simp only [this,ho,if_false,if_true]
  ·have:(MK.i q o')≠MK.i .i64 o:=fun h=>hq (by injection h)
   simp only [this,hq,if_false]
theorem nth_left {α:Type} {l m:List α} {r:Nat} {b:α} (h:nth l r=some b):nth (l++m) r=some b:=by
 induction l generalizing r with
 | nil=>simp [nth] at h
 | cons a l ih =>
  cases r with
  | zero=>exact h
  | succ r=>exact ih h
theorem nth_right {α:Type} (l m:List α) (r:Nat):nth (l++m) (l.length+r)=nth m r:=by
 induction l with
 | nil=>simp
 | cons a l ih=>rw [List.length_cons,show l.length+1+r=(l.length+r)+1 by omega];exact ih
structure LcOk (ns:List Nd) (root:Int) (g:Int→Bs→Option Nat) (c:TLC):Prop where
 le:c.i≤ns.length
 ow:∀ j,j<ns.length→c.f j=if c.i≤j then own ns root j else 0
 dom:∀ o,(c.l o).isSome=(isProcB ns o&&decide ((c.i:Int)≤o))
 at_:∀ o r,c.l o=some r→nth c.X r=some (.mp .str (strG (g o)) [])
 inj:∀ o o' r,c.l o=some r→c.l o'=some r→o=o'
theorem LcOk.step {ns:List Nd} {root:Int} {g:Int→Bs→Option Nat} {i:Nat} {f:Nat→Int} {l:Int→Option Nat} {X Y:List ABlk} (h:LcOk ns root g ⟨i+1,f,l,X⟩) (hk:(nd ns i).k≠3) :
  LcOk ns root g ⟨i,setF f i (own ns root i),l,X++Y⟩:=by
 have hle:=h.le
 simp only at hle
 refine⟨by show i≤_;omega,fun j hj=>?_,fun o=>?_,fun o r ho=>nth_left (h.at_ o r ho),h.inj⟩
 ·have:=h.ow j hj
  simp only [setF] at this ⊢
  by_cases e:j=i
  ·subst e;simp
  ·rw [if_neg e,this]
   by_cases h2:i+1≤j
   ·rw [if_pos h2,if_pos (by omega)]
   ·rw [if_neg h2,if_neg (by omega)]
 ·have:=h.dom o
  simp only at this ⊢
  rw [this]
  by_cases e:o=(i:Int)
  ·subst e
   have:isProcB ns (i:Int)=false:=by simp [isProcB,hk]
   rw [this,Bool.false_and,Bool.false_and]
  ·congr 1
   exact decide_eq_decide.2 (by omega)
theorem LcOk.stepP {ns:List Nd} {root:Int} {i:Nat} {f:Nat→Int} {l:Int→Option Nat} {X:List ABlk} {b:ABlk} (st:Std ns root) (h:LcOk ns root (fun _ _=>none) ⟨i+1,f,l,X⟩) (hk:(nd ns i).k=3) (hb:∀ o r,l o=some r→r<X.length) :
  LcOk ns root (fun _ _=>none) ⟨i,setF f i (i:Int),fun o'=>if o'=(i:Int) then some (X.length+1) else l o',X++[b,.mp .str (strG fun _=>none) []]⟩:=by
 have hle:=h.le
 simp only at hle
 refine⟨by show i≤_;omega,fun j hj=>?_,fun o=>?_,fun o r ho=>?_,fun o o' r ho ho'=>?_⟩
 ·have:=h.ow j hj
  simp only [setF] at this ⊢
  by_cases e:j=i
  ·subst e
   rw [if_pos rfl,if_pos (Nat.le_refl _),own_eq st (by omega),if_pos hk]
  ·rw [if_neg e,this]
   by_cases h2:i+1≤j
   ·rw [if_pos h2,if_pos (by omega)]
   ·rw [if_neg h2,if_neg (by omega)]
 ·simp only
  by_cases e:o=(i:Int)
  ·subst e
   have:isProcB ns (i:Int)=true:=by simp [isProcB,hk];omega
   simp [this]
  ·rw [if_neg e]
   have:=h.dom o
   simp only at this
   rw [this]
   congr 1
   exact decide_eq_decide.2 (by omega)
 ·simp only at ho ⊢
  by_cases e:o=(i:Int)
  ·rw [if_pos e] at ho
   injection ho with ho
   subst ho
   exact nth_right X _ 1
  ·rw [if_neg e] at ho
   exact nth_left (h.at_ o r ho)
 ·simp only at ho ho'
  by_cases e:o=(i:Int)<;>by_cases e':o'=(i:Int)
  ·rw [e,e']
  ·rw [if_pos e] at ho;rw [if_neg e'] at ho'
   injection ho with ho
   have:=hb _ _ ho'
   omega
  ·rw [if_neg e] at ho;rw [if_pos e'] at ho'
   injection ho' with ho'
   have:=hb _ _ ho
   omega
  ·rw [if_neg e] at ho;rw [if_neg e'] at ho'
   exact h.inj o o' r ho ho'
def lrK (ns:List Nd) (root:Int) (gs ps:Bs→Option Nat) (c:TLC):List ABlk :=
 [.box 40 [.p (.sl 5 ns.length (nodeF ns)),.p (.int .i64 root)],.mp .str (strG gs) [],.mp .str (strG ps) [],.mp (.int .i64) (locG c.l) [],
  .box 171 [.p (.sl 5 ns.length (nodeF ns)),.p (.int .i64 root),.slr 5 0 0 ns.length,.mref 1,.mref 2,.mref 3],rowA ns.length c.f]++c.X
theorem strG0:ABlk.mp .str (fun _=>none) []=.mp .str (strG fun _=>none) []:=by
 congr 1
 funext κ
 cases κ<;>rfl
theorem locG0:ABlk.mp (.int .i64) (fun _=>none) []=.mp (.int .i64) (locG fun _=>none) []:=by
 congr 1
 funext κ
 cases κ<;>simp [locG]
theorem glob_step {ns:List Nd} {j:Nat} (h:(nd ns j).k=2):(fun n=>firstB (globP ns n) (j+1))=insF (fun n=>firstB (globP ns n) j) (nd ns j).tx j:=by
 funext n
 simp only [firstB,insF,globP,h,beq_self_eq_true,Bool.true_and]
 cases firstB (globP ns n) j with
 | some _=>rfl
 | none =>
  by_cases e:(nd ns j).tx=n
  ·subst e;simp
  ·rw [beq_eq_false_iff_ne.2 e,if_neg (fun h=>e h.symm)]
theorem glob_same {ns:List Nd} {j:Nat} (h:(nd ns j).k≠2):(fun n=>firstB (globP ns n) (j+1))=fun n=>firstB (globP ns n) j:=by
 funext n
 simp only [firstB,globP,beq_eq_false_iff_ne.2 h,Bool.false_and]
 cases firstB (globP ns n) j<;>rfl
theorem proc_step {ns:List Nd} {j:Nat} (h:(nd ns j).k=3):(fun n=>firstB (procP ns n) (j+1))=insF (fun n=>firstB (procP ns n) j) (nd ns j).tx j:=by
 funext n
 simp only [firstB,insF,procP,h,beq_self_eq_true,Bool.true_and]
 cases firstB (procP ns n) j with
 | some _=>rfl
 | none =>
  by_cases e:(nd ns j).tx=n
  ·subst e;simp
  ·rw [beq_eq_false_iff_ne.2 e,if_neg (fun h=>e h.symm)]
theorem proc_same {ns:List Nd} {j:Nat} (h:(nd ns j).k≠3):(fun n=>firstB (procP ns n) (j+1))=fun n=>firstB (procP ns n) j:=by
 funext n
 simp only [firstB,procP,beq_eq_false_iff_ne.2 h,Bool.false_and]
 cases firstB (procP ns n) j<;>rfl
theorem loc_step {ns:List Nd} {root:Int} {j:Nat} (h:(nd ns j).k=4∨(nd ns j).k=5):(fun n=>firstB (locP ns root (own ns root j) n) (j+1))=insF (fun n=>firstB (locP ns root (own ns root j) n) j) (nd ns j).tx j:=by
 funext n
 have h':((nd ns j).k==4 || (nd ns j).k==5)=true:=by rcases h with h|h<;>simp [h]
 simp only [firstB,insF,locP,h',beq_self_eq_true,Bool.true_and]
 cases firstB (locP ns root (own ns root j) n) j with
 | some _=>rfl
 | none =>
  by_cases e:(nd ns j).tx=n
  ·subst e;simp
  ·rw [beq_eq_false_iff_ne.2 e,if_neg (fun h=>e h.symm)]
theorem loc_same {ns:List Nd} {root o:Int} {j:Nat} (h:o≠own ns root j∨((nd ns j).k≠4∧(nd ns j).k≠5)):(fun n=>firstB (locP ns root o n) (j+1))=fun n=>firstB (locP ns root o n) j:=by
 funext n
 have:locP ns root o n j=false:=by
  unfold locP
  rcases h with h|⟨h,h'⟩
  ·rw [beq_eq_false_iff_ne.2 (Ne.symm h),Bool.false_and,Bool.and_false]
  ·rw [beq_eq_false_iff_ne.2 h,beq_eq_false_iff_ne.2 h',Bool.or_self,Bool.false_and]
 simp only [firstB,this]
 cases firstB (locP ns root o n) j<;>rfl
def stG (ns:List Nd) (j:Nat) (n:Bs):Option Nat:=firstB (globP ns n) j
def stP (ns:List Nd) (j:Nat) (n:Bs):Option Nat:=firstB (procP ns n) j
def stL (ns:List Nd) (root:Int) (j:Nat) (o:Int) (n:Bs):Option Nat:=firstB (locP ns root o n) j
structure L2 where
 j:Nat
 X:List ABlk
theorem LcOk.left {ns:List Nd} {root:Int} {g:Int→Bs→Option Nat} {i:Nat} {f:Nat→Int} {l:Int→Option Nat} {X Y:List ABlk} (h:LcOk ns root g ⟨i,f,l,X⟩):LcOk ns root g ⟨i,f,l,X++Y⟩ :=
 ⟨h.le,h.ow,h.dom,fun o r ho=>nth_left (h.at_ o r ho),h.inj⟩
theorem LcOk.same {ns:List Nd} {root:Int} {j:Nat} {f:Nat→Int} {l:Int→Option Nat} {X Y:List ABlk} (h:LcOk ns root (stL ns root j) ⟨0,f,l,X⟩) (hk:(nd ns j).k≠4∧(nd ns j).k≠5):LcOk ns root (stL ns root (j+1)) ⟨0,f,l,X++Y⟩ :=
 ⟨h.le,h.ow,h.dom,fun o r ho=>by rw [show stL ns root (j+1) o=stL ns root j o from loc_same (.inr hk)];exact nth_left (h.at_ o r ho),h.inj⟩
theorem nth_setN_eq {α:Type} {l:List α} {r:Nat} {b b':α} (h:nth l r=some b):nth (setN l r b') r=some b':=by
 induction l generalizing r with
 | nil=>simp [nth] at h
 | cons a l ih =>
  cases r with
  | zero=>rfl
  | succ r=>exact ih h
theorem nth_setN_ne {α:Type} {l:List α} {r r':Nat} {b:α} (h:r'≠r):nth (setN l r b) r'=nth l r':=by
 induction l generalizing r r' with
 | nil=>rfl
 | cons a l ih =>
  cases r with
  | zero=>cases r' with
   | zero=>exact absurd rfl h
   | succ r'=>rfl
  | succ r=>cases r' with
   | zero=>rfl
   | succ r'=>exact ih (by omega)
theorem LcOk.local {ns:List Nd} {root:Int} {j r:Nat} {f:Nat→Int} {l:Int→Option Nat} {X:List ABlk} (h:LcOk ns root (stL ns root j) ⟨0,f,l,X⟩) (hk:(nd ns j).k=4∨(nd ns j).k=5) (hr:l (own ns root j)=some r) :
  LcOk ns root (stL ns root (j+1)) ⟨0,f,l,setN X r (.mp .str (strG (insF (stL ns root j (own ns root j)) (nd ns j).tx j)) [])⟩:=by
 refine⟨h.le,h.ow,h.dom,fun o r' ho=>?_,h.inj⟩
 by_cases e:o=own ns root j
 ·subst e
  have:r'=r:=by have:=hr.symm.trans ho;injection this with this;exact this.symm
  subst this
  rw [show stL ns root (j+1) (own ns root j)=insF (stL ns root j (own ns root j)) (nd ns j).tx j from loc_step hk]
  exact nth_setN_eq (h.at_ _ _ ho)
 ·rw [show stL ns root (j+1) o=stL ns root j o from loc_same (.inl e)]
  have:r'≠r:=fun e2=>by subst e2;exact e (h.inj _ _ _ ho hr)
  rw [nth_setN_ne this]
  exact h.at_ _ _ ho
theorem fz_strG {K:List ABlk} {r:Nat} {f:Bs→Option Nat} (h:nth K r=some (.mp .str (strG f) [])):Fz K (.mref r) (.mp .str (strM f)):=by
 refine .mp r .str (strG f) [] (strM f) h (fun κ hk=>?_) (fun κ a p hk ha hp=>?_)
 ·cases κ with
  | i q n=>simp [MK.kt] at hk
  | s l=>simp only [strG,strM];cases f l<;>simp
 ·cases κ with
  | i q n=>simp [MK.kt] at hk
  | s l =>
   simp only [strG] at ha
   simp only [strM] at hp
   cases hf:f l with
   | none=>rw [hf] at ha;cases ha
   | some j =>
    rw [hf] at ha hp
    injection ha with ha
    injection hp with hp
    subst ha hp
    exact .p _
theorem lr_fz {ns:List Nd} {root:Int} {f:Nat→Int} {l:Int→Option Nat} {X:List ABlk} (st:Std ns root) (ok:LcOk ns root (stL ns root ns.length) ⟨0,f,l,X⟩) :
  FzV (lrK ns root (stG ns ns.length) (stP ns ns.length) ⟨0,f,l,X⟩) (.ptr 4 0 1 0 0) (scV ns root):=by
 refine .box 4 171 0 _ (scC ns root) rfl rfl fun j hj hj'=>?_
 rcases j with _|_|_|_|_|_|j
 ·exact .p _
 ·exact .p _
 ·refine .sl 5 3 1 0 ns.length 0 ns.length _ _ rfl (Nat.zero_add _) (fun i hi=>rfl) fun i hi j hj hj'=>?_
  obtain rfl:j=0:=by simpa [rowF] using hj'
  have:=ok.ow i hi
  simp only at this
  rw [if_pos (Nat.zero_le _)] at this
  show Fz _ (.p (.int .i64 (f (0+i)))) (.int .i64 (own ns root i))
  rw [Nat.zero_add,this]
  exact .p _
 ·exact fz_strG rfl
 ·exact fz_strG rfl
 ·refine .mp 3 (.int .i64) (locG l) [] (locM ns root) rfl (fun κ hk=>?_) (fun κ a p hk ha hp=>?_)
  ·cases κ with
   | s l=>simp [MK.kt] at hk
   | i q o =>
    have hq:q=.i64:=by simpa [MK.kt] using hk
    subst hq
    have:=ok.dom o
    simp only at this
    simp only [locG,locM,if_true]
    cases hl:l o with
    | none =>
     rw [hl] at this
     cases hb:isProcB ns o with
     | false=>simp
     | true =>
      have h0:0≤o:=by simp only [isProcB,Bool.and_eq_true,decide_eq_true_eq] at hb;exact hb.1
      simp [hb,h0] at this
    | some r =>
     rw [hl] at this
     cases hb:isProcB ns o with
     | true=>simp
     | false=>simp [hb] at this
  ·cases κ with
   | s l=>simp [MK.kt] at hk
   | i q o =>
    have hq:q=.i64:=by simpa [MK.kt] using hk
    subst hq
    simp only [locG,if_true] at ha
    simp only [locM] at hp
    cases hl:l o with
    | none=>rw [hl] at ha;cases ha
    | some r =>
     rw [hl] at ha
     injection ha with ha
     subst ha
     cases hb:isProcB ns o with
     | false=>rw [hb] at hp;cases hp
     | true =>
      rw [hb] at hp
      injection hp with hp
      subst hp
      exact fz_strG (ok.at_ o r hl)
 ·simp at hj;omega
def gPar:AG:=gput 118 cParents (gput 119 cFirst g0)
theorem gPar_ok:GOk Tryz.prog gPar:=gput_ok parents_ok (gput_ok first_ok g0_ok)
def cLearn:AC:=fun args K k=>∃ ns root,args=[treeV ns root]∧RightT ns root∧k (.ret (scV ns root)) K
theorem learn_ok:COk 78 cLearn:=by
 rintro args K k ⟨ns,root,rfl,rt,hk⟩
 have st:=rt.toStd
 have hlen:=st.len
 have hpos:=st.pos
 have hrt:=st.rt
 have hsd:soundS ns root=true:=by have:=rt.ok;simp only [rightS,Bool.and_eq_true] at this;exact this.1.1.1
 refine frame0W gPar_ok 19 rfl fun Q hr=>?_
 conv=>whnf
 refine⟨ns,root,rfl,by omega,?_⟩
 simp only [parV,hsd]
 conv=>whnf
 refine⟨⟨by omega,by omega,by omega,?_⟩,?_⟩
 ·show (8:Int)*(ns.length:Int)≤140737488355328
  omega
 conv=>whnf
 refine loop_by (ι:=TLC) (fun c=>⟨[(1,.ptr 0 0 1 0 0),(2,.p .nilp),(3,.ptr 4 0 1 0 0),(4,.p (.sl 1 ns.length (rowF (parF ns root)))),(5,intV ((c.i:Int) - 1))],lrK ns root (fun _=>none) (fun _=>none) c⟩)
  (LcOk ns root (fun _ _=>none)) (fun c=>c.i) ⟨ns.length,fun _=>0,fun _=>none,[]⟩ ⟨AV.le_refl _,AV.le_refl _,AV.le_refl _,AV.le_refl _,AV.le_of_eq (congrArg intV (by omega)),trivial⟩ ?_ ?_ ?_
 ·(conv=>whnf)
  refine⟨ABlk.le_refl _,?_⟩
  (conv=>whnf)
  refine⟨ABlk.le_of_eq strG0,?_⟩
  (conv=>whnf)
  refine⟨ABlk.le_of_eq strG0,?_⟩
  (conv=>whnf)
  refine⟨ABlk.le_of_eq locG0,?_⟩
  (conv=>whnf)
  refine⟨ABlk.le_refl _,?_⟩
  (conv=>whnf)
  refine⟨ABlk.arr_eq rfl fun _ _=>rfl,?_⟩
  exact trivial
 ·refine⟨Nat.le_refl _,fun j hj=>by rw [if_neg (by show ¬ ns.length≤j;omega)],fun o=>?_,fun o r h=>(by cases h),fun o o' r h=>(by cases h)⟩
  simp only [isProcB,Option.isSome_none]
  by_cases h:o<ns.length
  ·rw [show decide ((ns.length:Int)≤o)=false from decide_eq_false (by omega),Bool.and_false]
  ·rw [show decide (o<(ns.length:Int))=false from decide_eq_false h,Bool.false_and,Bool.and_false,Bool.false_and]
 ·rintro Y hle ⟨i,f,l,X⟩ ok ih
  simp only [lrK]
  conv=>whnf
  refine two_dec (fun h=>?_) (fun h=>?_)
  ·have h:0<i:=by have h:(i:Int) - 1≥0:=h;omega
   obtain⟨i,rfl⟩:∃ m,i=m+1:=⟨i - 1,by omega⟩
   have e0:(((i+1:Nat):Int) - 1)=(i:Int):=by omega
   have hi:=ok.le
   simp only at hi
   have hw1:IntKind.i64.wrap ((i:Int) - 1)=(i:Int) - 1:=w64 ⟨by omega,by omega⟩
   rw [e0]
   conv=>whnf
   refine⟨⟨by omega,by omega,rfl⟩,?_⟩
   conv=>whnf
   ((first|refine fK_to ?_|refine fL_to ?_|refine fB_to ?_);conv=>whnf)
   conv in (nth _ _)=>tactic=>exact nth_snoc (lrK ns root (fun _=>none) (fun _=>none) ⟨i+1,f,l,X⟩) _
   conv=>whnf
   ((first|refine fK_to ?_|refine fL_to ?_|refine fB_to ?_);conv=>whnf)
   conv in (nth _ _)=>tactic=>exact nth_setsnoc (lrK ns root (fun _=>none) (fun _=>none) ⟨i+1,f,l,X⟩) _ _
   conv=>whnf
   refine two_eq (fun h3=>?_) (fun h3=>?_)
   ·have h3:(nd ns i).k=3:=h3
    conv=>whnf
    refine⟨⟨rfl,Nat.zero_add _,by omega,by omega,rfl⟩,?_⟩
    conv=>whnf
    refine⟨⟨rfl,rfl⟩,?_⟩
    conv=>whnf
    ((first|refine fK_to ?_|refine fL_to ?_|refine fB_to ?_);conv=>whnf)
    ((first|refine fK_to ?_|refine fL_to ?_|refine fB_to ?_);conv=>whnf)
    ((first|refine fK_to ?_|refine fL_to ?_|refine fB_to ?_);conv=>whnf)
    refine hle _ _ (Le.env ?_ ?_) (ih ⟨i,setF f i (i:Int),fun o'=>if o'=(i:Int) then some (X.length+1) else l o',X++[nodeB (nd ns i),.mp .str (strG fun _=>none) []]⟩ (Nat.lt_succ_self i) (ok.stepP st h3 fun o r ho=>nth_lt (ok.at_ o r ho)))
    ·skip
     repeat' (first|exact trivial|((conv=>whnf);first|exact trivial|refine⟨AV.le_refl _,?_⟩|refine⟨ABlk.le_refl _,?_⟩|(refine⟨AV.le_of_eq ?_,?_⟩;focus ((first|exact congrArg intV hw1|fail);done))|(refine⟨ABlk.le_of_eq ?_,?_⟩;focus ((first|exact congrArg intV hw1|fail);done))|fail)|fail)
    ·(conv=>whnf)
     refine⟨ABlk.le_refl _,?_⟩
     (conv=>whnf)
     refine⟨ABlk.le_refl _,?_⟩
     (conv=>whnf)
     refine⟨ABlk.le_refl _,?_⟩
     (conv=>whnf)
     refine⟨ABlk.le_of_eq (congrArg (fun g=>ABlk.mp (.int .i64) g []) (Eq.trans (congrArg (insM (locG l) (.i .i64 (i:Int))) (a₂:=AV.mref (X.length+1+6)) ?_) locG_ins)),?_⟩
     ·(conv=>lhs;whnf)
      refine congrArg AV.mref ?_
      dsimp only
      simp only [len_length,length_setN,length_snoc,List.append_eq,List.nil_append,List.length_cons,List.length_nil]
     (conv=>whnf)
     refine⟨ABlk.le_refl _,?_⟩
     (conv=>whnf)
     refine⟨rowA_set rfl (Nat.zero_add _) (fun _ _=>rfl),?_⟩
     refine lesK_eq ?_
     show snoc (setN (snoc X _) (len X) _) _=X++_
     rw [setN_snoc,snoc_app,snoc_app,List.append_assoc,strG0]
     rfl
   ·have h3:(nd ns i).k≠3:=h3
    conv=>whnf
    refine two_eq (fun h4=>?_) (fun h4=>?_)
    ·have h4:(i:Int)=root:=h4
     conv=>whnf
     refine⟨⟨rfl,Nat.zero_add _,by omega,by omega,rfl⟩,?_⟩
     conv=>whnf
     refine⟨⟨rfl,rfl⟩,?_⟩
     conv=>whnf
     ((first|refine fK_to ?_|refine fL_to ?_|refine fB_to ?_);conv=>whnf)
     have ho:own ns root i=-1:=by rw [own_eq st (by omega),if_neg h3,if_pos h4]
     refine hle _ _ (Le.env ?_ ?_) (ih ⟨i,setF f i (own ns root i),l,X++[nodeB (nd ns i)]⟩ (Nat.lt_succ_self i) (ok.step h3))
     ·skip
      repeat' (first|exact trivial|((conv=>whnf);first|exact trivial|refine⟨AV.le_refl _,?_⟩|refine⟨ABlk.le_refl _,?_⟩|(refine⟨AV.le_of_eq ?_,?_⟩;focus ((first|exact congrArg intV hw1|fail);done))|(refine⟨ABlk.le_of_eq ?_,?_⟩;focus ((first|exact congrArg intV hw1|fail);done))|fail)|fail)
     ·rw [ho]
      (conv=>whnf)
      refine⟨ABlk.le_refl _,?_⟩
      (conv=>whnf)
      refine⟨ABlk.le_refl _,?_⟩
      (conv=>whnf)
      refine⟨ABlk.le_refl _,?_⟩
      (conv=>whnf)
      refine⟨ABlk.le_refl _,?_⟩
      (conv=>whnf)
      refine⟨ABlk.le_refl _,?_⟩
      (conv=>whnf)
      refine⟨rowA_set (rfl) (Nat.zero_add _) (fun _ _=>rfl),?_⟩
      exact lesK_eq ((setN_snoc X _ _).trans (snoc_app X _))
    ·have h4:(i:Int)≠root:=h4
     obtain⟨p,p1,p2,_,p4⟩:=st.par_up i (by omega)
     have p5:parF ns root ((i:Int)).toNat=(p:Int):=p4
     have hf:f p=own ns root p:=by
      have:=ok.ow p p2
      simp only at this
      rw [this,if_pos (by omega)]
     have ho:own ns root i=own ns root p:=by rw [own_eq st (by omega),if_neg h3,if_neg h4,p4];rfl
     conv=>whnf
     refine⟨⟨by omega,by omega,rfl⟩,?_⟩
     conv=>whnf
     refine⟨⟨rfl,Nat.zero_add _,by rw [p5];omega,by rw [p5];omega,rfl⟩,?_⟩
     conv=>whnf
     refine⟨⟨rfl,rfl⟩,?_⟩
     conv=>whnf
     refine⟨⟨rfl,Nat.zero_add _,by omega,by omega,rfl⟩,?_⟩
     conv=>whnf
     refine⟨⟨rfl,rfl⟩,?_⟩
     conv=>whnf
     ((first|refine fK_to ?_|refine fL_to ?_|refine fB_to ?_);conv=>whnf)
     repeat ((refine And.intro ?_ ?_);(focus ((conv=>whnf);done));conv=>whnf)
     refine hle _ _ (Le.env ?_ ?_) (ih ⟨i,setF f i (own ns root i),l,X++[nodeB (nd ns i)]⟩ (Nat.lt_succ_self i) (ok.step h3))
     ·skip
      repeat' (first|exact trivial|((conv=>whnf);first|exact trivial|refine⟨AV.le_refl _,?_⟩|refine⟨ABlk.le_refl _,?_⟩|(refine⟨AV.le_of_eq ?_,?_⟩;focus ((first|exact congrArg intV hw1|fail);done))|(refine⟨ABlk.le_of_eq ?_,?_⟩;focus ((first|exact congrArg intV hw1|fail);done))|fail)|fail)
     ·rw [ho,← hf]
      have e5:(0+(parF ns root ((i:Int)).toNat).toNat)=p:=by rw [p5,Nat.zero_add,Int.toNat_natCast]
      (conv=>whnf)
      refine⟨ABlk.le_refl _,?_⟩
      (conv=>whnf)
      refine⟨ABlk.le_refl _,?_⟩
      (conv=>whnf)
      refine⟨ABlk.le_refl _,?_⟩
      (conv=>whnf)
      refine⟨ABlk.le_refl _,?_⟩
      (conv=>whnf)
      refine⟨ABlk.le_refl _,?_⟩
      (conv=>whnf)
      refine⟨rowA_set (congrArg (fun q=>[intV (f q)]) e5) (Nat.zero_add _) (fun _ _=>rfl),?_⟩
      exact lesK_eq ((setN_snoc X _ _).trans (snoc_app X _))
  ·have h:i=0:=by have h:¬ (i:Int) - 1≥0:=h;omega
   subst h
   conv=>whnf
   ((first|refine fK_to ?_|refine fL_to ?_|refine fB_to ?_);conv=>whnf)
   refine loop_by (ι:=L2) (fun c=>⟨[(2,.p .nilp),(3,.ptr 4 0 1 0 0),(7,.p (.fn 119)),(81,.p (.sl 5 ns.length (nodeF ns))),(82,intV ns.length),(83,intV c.j)],lrK ns root (stG ns c.j) (stP ns c.j) ⟨0,f,l,c.X⟩⟩)
    (fun c=>c.j≤ns.length∧LcOk ns root (stL ns root c.j) ⟨0,f,l,c.X⟩) (fun c=>ns.length - c.j) ⟨0,X⟩ ⟨AV.le_refl _,AV.le_refl _,AV.le_refl _,AV.le_refl _,AV.le_refl _,AV.le_refl _,trivial⟩ (lesK.refl _) ⟨Nat.zero_le _,ok⟩ ?_
   rintro Z hlz ⟨j,X⟩ ⟨hj,ok⟩ ihz
   simp only at hj ok
   simp only [lrK]
   conv=>whnf
   refine two_dec (fun h2=>?_) (fun h2=>?_)
   ·have h2:j<ns.length:=by have h2:(j:Int)<(ns.length:Int):=h2;omega
    have hw2:=wzz (i:=j) (by omega)
    conv=>whnf
    refine⟨⟨by omega,by omega,rfl⟩,?_⟩
    conv=>whnf
    ((first|refine fK_to ?_|refine fL_to ?_|refine fB_to ?_);conv=>whnf)
    conv in (nth _ _)=>tactic=>exact nth_snoc (lrK ns root (stG ns j) (stP ns j) ⟨0,f,l,X⟩) _
    conv=>whnf
    ((first|refine fK_to ?_|refine fL_to ?_|refine fB_to ?_);conv=>whnf)
    conv in (nth _ _)=>tactic=>exact nth_setsnoc (lrK ns root (stG ns j) (stP ns j) ⟨0,f,l,X⟩) _ _
    conv=>whnf
    refine two_eq (fun h3=>?_) (fun h3=>?_)
    ·have h3:(nd ns j).k=2:=h3
     conv=>whnf
     conv in (nth _ _)=>tactic=>exact nth_setsnoc (lrK ns root (stG ns j) (stP ns j) ⟨0,f,l,X⟩) _ _
     conv=>whnf
     refine⟨1,(nd ns j).tx,j,stG ns j,rfl,rfl,?_⟩
     conv=>whnf
     refine hlz _ _ (Le.env ?_ ?_) (ihz ⟨j+1,X++[nodeB (nd ns j)]⟩ (by show _ - (j+1)<_ - j;omega) ⟨h2,ok.same (by omega)⟩)
     ·skip
      repeat' (first|exact trivial|((conv=>whnf);first|exact trivial|refine⟨AV.le_refl _,?_⟩|refine⟨ABlk.le_refl _,?_⟩|(refine⟨AV.le_of_eq ?_,?_⟩;focus ((first|exact congrArg intV hw2|fail);done))|(refine⟨ABlk.le_of_eq ?_,?_⟩;focus ((first|exact congrArg intV hw2|fail);done))|fail)|fail)
     ·(conv=>whnf)
      refine⟨ABlk.le_refl _,?_⟩
      (conv=>whnf)
      refine⟨ABlk.le_of_eq (congrArg (fun g=>ABlk.mp .str (strG g) []) (glob_step h3).symm),?_⟩
      (conv=>whnf)
      refine⟨ABlk.le_of_eq (congrArg (fun g=>ABlk.mp .str (strG g) []) (proc_same (by omega)).symm),?_⟩
      (conv=>whnf)
      refine⟨ABlk.le_refl _,?_⟩
      (conv=>whnf)
      refine⟨ABlk.le_refl _,?_⟩
      (conv=>whnf)
      refine⟨ABlk.le_refl _,?_⟩
      exact lesK_eq ((setN_snoc X _ _).trans (snoc_app X _))
    have h3:(nd ns j).k≠2:=h3
    conv=>whnf
    refine two_eq (fun h4=>?_) (fun h4=>?_)
    ·have h4:(nd ns j).k=3:=h4
     conv=>whnf
     conv in (nth _ _)=>tactic=>exact nth_setsnoc (lrK ns root (stG ns j) (stP ns j) ⟨0,f,l,X⟩) _ _
     conv=>whnf
     refine⟨2,(nd ns j).tx,j,stP ns j,rfl,rfl,?_⟩
     conv=>whnf
     refine hlz _ _ (Le.env ?_ ?_) (ihz ⟨j+1,X++[nodeB (nd ns j)]⟩ (by show _ - (j+1)<_ - j;omega) ⟨h2,ok.same (by omega)⟩)
     ·skip
      repeat' (first|exact trivial|((conv=>whnf);first|exact trivial|refine⟨AV.le_refl _,?_⟩|refine⟨ABlk.le_refl _,?_⟩|(refine⟨AV.le_of_eq ?_,?_⟩;focus ((first|exact congrArg intV hw2|fail);done))|(refine⟨ABlk.le_of_eq ?_,?_⟩;focus ((first|exact congrArg intV hw2|fail);done))|fail)|fail)
     ·(conv=>whnf)
      refine⟨ABlk.le_refl _,?_⟩
      (conv=>whnf)
      refine⟨ABlk.le_of_eq (congrArg (fun g=>ABlk.mp .str (strG g) []) (glob_same (by omega)).symm),?_⟩
      (conv=>whnf)
      refine⟨ABlk.le_of_eq (congrArg (fun g=>ABlk.mp .str (strG g) []) (proc_step h4).symm),?_⟩
      (conv=>whnf)
      refine⟨ABlk.le_refl _,?_⟩
      (conv=>whnf)
      refine⟨ABlk.le_refl _,?_⟩
      (conv=>whnf)
      refine⟨ABlk.le_refl _,?_⟩
      exact lesK_eq ((setN_snoc X _ _).trans (snoc_app X _))
    have h4:(nd ns j).k≠3:=h4
    conv=>whnf
    refine two_eq (fun h5=>?_) (fun h5=>?_)
    ·have h5:(nd ns j).k=4:=h5
     obtain⟨p,p1,p2,p3,p4,p5⟩:=rt.decl h2 (.inl h5)
     have hfj:f (0+((j:Int)).toNat)=own ns root j:=by
      have:=ok.ow j h2
      simp only at this
      rw [Nat.zero_add,Int.toNat_natCast,this,if_pos (Nat.zero_le _)]
     have hip:isProcB ns (own ns root j)=true:=isProcB_own st h2 (by rw [p5];omega)
     obtain⟨r,hlr⟩:∃ r,l (own ns root j)=some r:=by
      have:=ok.dom (own ns root j)
      simp only [hip,Bool.true_and] at this
      rw [decide_eq_true (by rw [p5];exact Int.natCast_nonneg p)] at this
      exact Option.isSome_iff_exists.1 this
     conv=>whnf
     refine⟨⟨rfl,Nat.zero_add _,by omega,by omega,rfl⟩,?_⟩
     conv=>whnf
     refine⟨⟨rfl,rfl⟩,?_⟩
     conv=>whnf
     refine MGet.of_some (a:=.mref (r+6)) (by rw [hfj];simp [locG,hlr]) ?_
     conv=>whnf
     conv in (nth _ _)=>tactic=>exact nth_setsnoc (lrK ns root (stG ns j) (stP ns j) ⟨0,f,l,X⟩) _ _
     conv=>whnf
     refine⟨r+6,(nd ns j).tx,j,stL ns root j (own ns root j),rfl,?_,?_⟩
     ·show nth (setN (snoc X _) (len X) _) r=_
      rw [setN_snoc,snoc_app]
      exact nth_left (ok.at_ _ _ hlr)
     conv=>whnf
     refine hlz _ _ (Le.env ?_ ?_) (ihz ⟨j+1,setN (X++[nodeB (nd ns j)]) r (.mp .str (strG (insF (stL ns root j (own ns root j)) (nd ns j).tx j)) [])⟩ (by show _ - (j+1)<_ - j;omega) ⟨h2,ok.left.local (.inl h5) hlr⟩)
     ·skip
      repeat' (first|exact trivial|((conv=>whnf);first|exact trivial|refine⟨AV.le_refl _,?_⟩|refine⟨ABlk.le_refl _,?_⟩|(refine⟨AV.le_of_eq ?_,?_⟩;focus ((first|exact congrArg intV hw2|fail);done))|(refine⟨ABlk.le_of_eq ?_,?_⟩;focus ((first|exact congrArg intV hw2|fail);done))|fail)|fail)
     ·(conv=>whnf)
      refine⟨ABlk.le_refl _,?_⟩
      (conv=>whnf)
      refine⟨ABlk.le_of_eq (congrArg (fun g=>ABlk.mp .str (strG g) []) (glob_same (by omega)).symm),?_⟩
      (conv=>whnf)
      refine⟨ABlk.le_of_eq (congrArg (fun g=>ABlk.mp .str (strG g) []) (proc_same (by omega)).symm),?_⟩
      (conv=>whnf)
      refine⟨ABlk.le_refl _,?_⟩
      (conv=>whnf)
      refine⟨ABlk.le_refl _,?_⟩
      (conv=>whnf)
      refine⟨ABlk.le_refl _,?_⟩
      exact lesK_eq (congrArg (fun Y=>setN Y r _) ((setN_snoc X _ _).trans (snoc_app X _)))
    have h5:(nd ns j).k≠4:=h5
    conv=>whnf
    refine two_eq (fun h6=>?_) (fun h6=>?_)
    ·have h6:(nd ns j).k=5:=h6
     obtain⟨p,p1,p2,p3,p4,p5⟩:=rt.decl h2 (.inr h6)
     have hfj:f (0+((j:Int)).toNat)=own ns root j:=by
      have:=ok.ow j h2
      simp only at this
      rw [Nat.zero_add,Int.toNat_natCast,this,if_pos (Nat.zero_le _)]
     have hip:isProcB ns (own ns root j)=true:=isProcB_own st h2 (by rw [p5];omega)
     obtain⟨r,hlr⟩:∃ r,l (own ns root j)=some r:=by
      have:=ok.dom (own ns root j)
      simp only [hip,Bool.true_and] at this
      rw [decide_eq_true (by rw [p5];exact Int.natCast_nonneg p)] at this
      exact Option.isSome_iff_exists.1 this
     conv=>whnf
     refine⟨⟨rfl,Nat.zero_add _,by omega,by omega,rfl⟩,?_⟩
     conv=>whnf
     refine⟨⟨rfl,rfl⟩,?_⟩
     conv=>whnf
     refine MGet.of_some (a:=.mref (r+6)) (by rw [hfj];simp [locG,hlr]) ?_
     conv=>whnf
     conv in (nth _ _)=>tactic=>exact nth_setsnoc (lrK ns root (stG ns j) (stP ns j) ⟨0,f,l,X⟩) _ _
     conv=>whnf
     refine⟨r+6,(nd ns j).tx,j,stL ns root j (own ns root j),rfl,?_,?_⟩
     ·show nth (setN (snoc X _) (len X) _) r=_
      rw [setN_snoc,snoc_app]
      exact nth_left (ok.at_ _ _ hlr)
     conv=>whnf
     refine hlz _ _ (Le.env ?_ ?_) (ihz ⟨j+1,setN (X++[nodeB (nd ns j)]) r (.mp .str (strG (insF (stL ns root j (own ns root j)) (nd ns j).tx j)) [])⟩ (by show _ - (j+1)<_ - j;omega) ⟨h2,ok.left.local (.inr h6) hlr⟩)
     ·skip
      repeat' (first|exact trivial|((conv=>whnf);first|exact trivial|refine⟨AV.le_refl _,?_⟩|refine⟨ABlk.le_refl _,?_⟩|(refine⟨AV.le_of_eq ?_,?_⟩;focus ((first|exact congrArg intV hw2|fail);done))|(refine⟨ABlk.le_of_eq ?_,?_⟩;focus ((first|exact congrArg intV hw2|fail);done))|fail)|fail)
     ·(conv=>whnf)
      refine⟨ABlk.le_refl _,?_⟩
      (conv=>whnf)
      refine⟨ABlk.le_of_eq (congrArg (fun g=>ABlk.mp .str (strG g) []) (glob_same (by omega)).symm),?_⟩
      (conv=>whnf)
      refine⟨ABlk.le_of_eq (congrArg (fun g=>ABlk.mp .str (strG g) []) (proc_same (by omega)).symm),?_⟩
      (conv=>whnf)
      refine⟨ABlk.le_refl _,?_⟩
      (conv=>whnf)
      refine⟨ABlk.le_refl _,?_⟩
      (conv=>whnf)
      refine⟨ABlk.le_refl _,?_⟩
      exact lesK_eq (congrArg (fun Y=>setN Y r _) ((setN_snoc X _ _).trans (snoc_app X _)))
    have h6:(nd ns j).k≠5:=h6
    conv=>whnf
    refine hlz _ _ (Le.env ?_ ?_) (ihz ⟨j+1,X++[nodeB (nd ns j)]⟩ (by show _ - (j+1)<_ - j;omega) ⟨h2,ok.same (by omega)⟩)
    ·skip
     repeat' (first|exact trivial|((conv=>whnf);first|exact trivial|refine⟨AV.le_refl _,?_⟩|refine⟨ABlk.le_refl _,?_⟩|(refine⟨AV.le_of_eq ?_,?_⟩;focus ((first|exact congrArg intV hw2|fail);done))|(refine⟨ABlk.le_of_eq ?_,?_⟩;focus ((first|exact congrArg intV hw2|fail);done))|fail)|fail)
    ·(conv=>whnf)
     refine⟨ABlk.le_refl _,?_⟩
     (conv=>whnf)
     refine⟨ABlk.le_of_eq (congrArg (fun g=>ABlk.mp .str (strG g) []) (glob_same (by omega)).symm),?_⟩
     (conv=>whnf)
     refine⟨ABlk.le_of_eq (congrArg (fun g=>ABlk.mp .str (strG g) []) (proc_same (by omega)).symm),?_⟩
     (conv=>whnf)
     refine⟨ABlk.le_refl _,?_⟩
     (conv=>whnf)
     refine⟨ABlk.le_refl _,?_⟩
     (conv=>whnf)
     refine⟨ABlk.le_refl _,?_⟩
     exact lesK_eq ((setN_snoc X _ _).trans (snoc_app X _))
   ·obtain rfl:j=ns.length:=by have h2:¬ (j:Int)<(ns.length:Int):=h2;omega
    conv=>whnf
    ((first|refine fK_to ?_|refine fL_to ?_|refine fB_to ?_);conv=>whnf)
    exact hr _ _ _ _ (Wk1.fzAll (lr_fz st ok)) rfl hk
structure Tame (ns:List Nd):Prop where
 len:ns.length<1000000
 tx:∀ i,(ns.getD i default).tx.length<1000000
def gW1:AG:=gput 77 cRight g0
theorem gW1_ok:GOk Tryz.prog gW1:=gput_ok right_ok g0_ok
def gW4:AG:=gput 78 cLearn (gput 80 cTProc (gput 81 cParams (gput 79 cCheckN gW1)))
theorem gW4_ok:GOk Tryz.prog gW4:=gput_ok learn_ok (gput_ok proc_ok' (gput_ok params_ok (gput_ok checkN_ok gW1_ok)))
def ckV (p:Int×Int):AV:=.tup [intV p.1,intV p.2]
def cCheck:AC:=fun args K k=>∃ ns root,args=[treeV ns root]∧Tame ns∧k (.ret (ckV (checkTree ns root))) K
theorem check_ok:COk 47 cCheck:=by
 rintro args K k ⟨ns,root,rfl,t,hk⟩
 refine frame0P gW4_ok 19 rfl fun Q hr=>?_
 unfold checkTree at hk
 conv=>whnf
 refine⟨ns,root,rfl,t.len,t.tx,?_⟩
 cases h:rightS ns root with
 | false =>
  rw [h] at hk
  conv=>whnf
  exact hr _ _ rfl hk
 | true =>
  rw [h] at hk
  have rt:=right_of h
  have hlen:=rt.len
  simp only at hk
  conv=>whnf
  refine⟨ns,root,rfl,rt,?_⟩
  conv=>whnf
  refine loop_up (ι:=Nat) [1,4,15] (fun i=>[(16,intV i)]) (fun _=>[]) (fun i=>i≤ns.length∧wrongS ns root i (ns.length - i)=wrongS ns root 0 ns.length) (fun i=>ns.length - i) 0 ⟨AV.le_refl _,trivial⟩ trivial ⟨Nat.zero_le _,rfl⟩ ?_
  rintro Y hle i ⟨hi,he⟩ ih
  conv=>whnf
  refine two_dec (fun h2=>?_) (fun h2=>?_)
  ·have h2:i<ns.length:=by have h2:(i:Int)<(ns.length:Int):=h2;omega
   have hw1:=wzz (i:=i) (by omega)
   obtain⟨m,hm⟩:∃ m,ns.length - i=m+1:=⟨ns.length - i - 1,by omega⟩
   have hm':ns.length - (i+1)=m:=by omega
   rw [hm] at he
   simp only [wrongS] at he
   conv=>whnf
   refine⟨ns,root,i,rfl,rt,h2,?_⟩
   conv=>whnf
   refine two_ne (fun h3=>?_) (fun h3=>?_)
   ·have h3:checkS ns root i≠0:=h3
    rw [beq_eq_false_iff_ne.2 h3] at he
    simp only at he
    rw [← he] at hk
    conv=>whnf
    exact hr _ _ rfl hk
   ·have h3:checkS ns root i=0:=h3
    rw [h3] at he
    conv=>whnf
    refine hle _ _ (Le.env ?_ ?_) (ih (i+1) (by omega) ⟨by omega,by rw [hm'];exact he⟩)
    ·skip
     repeat' (first|exact trivial|((conv=>whnf);first|exact trivial|refine⟨AV.le_refl _,?_⟩|refine⟨ABlk.le_refl _,?_⟩|(refine⟨AV.le_of_eq ?_,?_⟩;focus ((first|exact congrArg intV hw1|fail);done))|(refine⟨ABlk.le_of_eq ?_,?_⟩;focus ((first|exact congrArg intV hw1|fail);done))|fail)|fail)
    ·skip
     repeat' (first|exact trivial|((conv=>whnf);first|exact trivial|refine⟨AV.le_refl _,?_⟩|refine⟨ABlk.le_refl _,?_⟩|fail)|fail)
  ·obtain rfl:i=ns.length:=by have h2:¬ (i:Int)<(ns.length:Int):=h2;omega
   rw [Nat.sub_self] at he
   simp only [wrongS] at he
   rw [← he] at hk
   simp only at hk
   conv=>whnf
   refine⟨ns,root,mainT,rfl,?_⟩
   have hp:=procI_range ns mainT
   generalize procI ns mainT=p at hk hp ⊢
   conv=>whnf
   refine two_eq (fun h3=>?_) (fun h3=>?_)
   ·have h3:p=-1:=h3
    subst h3
    conv=>whnf
    exact hr _ _ rfl hk
   have h3:p≠-1:=h3
   obtain⟨q,rfl⟩:∃ q:Nat,p=(q:Int):=⟨p.toNat,by omega⟩
   have hq:q<ns.length:=by omega
   rw [beq_eq_false_iff_ne.2 h3,Bool.false_or] at hk
   conv=>whnf
   refine⟨⟨by omega,by omega,rfl⟩,?_⟩
   conv=>whnf
   refine two_ne (fun h4=>?_) (fun h4=>?_)
   ·have h4:(nd ns q).n≠0:=h4
    rw [show ((nd ns ((q:Int)).toNat).n != 0)=true from bne_iff_ne.2 h4] at hk
    conv=>whnf
    exact hr _ _ rfl hk
   have h4:(nd ns q).n=0:=h4
   rw [show ((nd ns ((q:Int)).toNat).n != 0)=false from by simpa using h4,Bool.false_or] at hk
   conv=>whnf
   refine⟨ns,root,q,rfl,rt.toStd,hq,?_⟩
   conv=>whnf
   refine two_dec (fun h5=>?_) (fun h5=>?_)
   ·have h5:0<(paramsS ns q).length:=by have h5:((paramsS ns q).length:Int)>0:=h5;omega
    rw [show decide (0<(paramsS ns ((q:Int)).toNat).length)=true from decide_eq_true h5] at hk
    conv=>whnf
    exact hr _ _ rfl hk
   ·have h5:¬ 0<(paramsS ns q).length:=by have h5:¬ ((paramsS ns q).length:Int)>0:=h5;omega
    rw [show decide (0<(paramsS ns ((q:Int)).toNat).length)=false from decide_eq_false h5] at hk
    conv=>whnf
    exact hr _ _ rfl hk
end Go.Proofs.YtcmepkfefoidcaaGreatDoor
namespace Go.Ru
theorem bind_ok {α β:Type} {r:R α} {f:α→PS→R β} {b:β} {s':PS} (h:r.bind f=.ok b s'):∃ a s,r=.ok a s∧f a s=.ok b s':=by
 cases r with
 | ok a s=>exact⟨a,s,rfl,h⟩
 | bad a e=>simp [R.bind] at h
def Okk {α:Type} (r:R α) (p:PS→Prop):Prop:=∀ a s,r=.ok a s→p s
theorem Okk.bind {α β:Type} {r:R α} {f:α→PS→R β} {p q:PS→Prop} (h:Okk r p) (h':∀ a s,p s→Okk (f a s) q):Okk (r.bind f) q:=fun b s' hb=>by
 obtain⟨a,s,h1,h2⟩:=bind_ok hb
 exact h' a s (h a s h1) b s' h2
theorem Okk.imp {α:Type} {r:R α} {p q:PS→Prop} (h:Okk r p) (h':∀ s,p s→q s):Okk r q:=fun a s hr=>h' s (h a s hr)
theorem Okk.pure {α:Type} {a:α} {s:PS} {p:PS→Prop} (h:p s):Okk (.ok a s) p:=fun b s' hb=>by
 injection hb with _ h2
 exact h2▸h
theorem Okk.bad {α:Type} {a e:Int} {p:PS→Prop}:Okk (.bad a e:R α) p:=fun b s' hb=>by simp at hb
def Lw (s0:PS) (c k:Nat) (s:PS):Prop:=s.ns.length+4*s.ts.length+c≤s0.ns.length+4*s0.ts.length∧s.ts.length+k≤s0.ts.length
theorem isS_pos {w:Bs} {ts:List Tok} (h:isS w ts=true):0<ts.length:=by
 cases ts with
 | nil=>simp [isS] at h
 | cons t r=>simp
theorem drop_le (s:PS) (h:0<s.ts.length):Lw s 4 1 (dropS s):=by
 simp only [Lw,dropS,List.length_tail];omega
theorem want_le (e:Int) (w:Bs) (s:PS):Okk (wantS e w s) (Lw s 4 1):=by
 unfold wantS
 split
 ·rename_i h;exact .pure (drop_le s (isS_pos h))
 ·exact .bad
theorem ident_le (e:Int) (s:PS):Okk (identS e s) (Lw s 4 1):=by
 unfold identS
 split
 ·exact .bad
 ·rename_i t r h
  split
  ·refine .pure ?_
   simp only [Lw,h,List.length_cons];omega
  ·exact .bad
theorem put_len (n:Nd) (s:PS):Okk (putS n s) (fun s'=>s'.ns.length=s.ns.length+1∧s'.ts.length=s.ts.length):=by
 unfold putS
 exact .pure (by simp)
theorem put_le {n:Nd} {s0 s:PS} {c k:Nat} (h:Lw s0 (c+1) k s):Okk (putS n s) (Lw s0 c k):=(put_len n s).imp fun s' h'=>by
 simp only [Lw] at h ⊢;omega
theorem Lw.trans {s0 s1 s2:PS} {c k c' k':Nat} (h:Lw s0 c k s1) (h':Lw s1 c' k' s2):Lw s0 (c+c') (k+k') s2:=by
 simp only [Lw] at h h' ⊢;omega
theorem Lw.weak {s0 s1:PS} {c k c' k':Nat} (h:Lw s0 c k s1) (hc:c'≤c) (hk:k'≤k):Lw s0 c' k' s1:=by
 simp only [Lw] at h ⊢;omega
theorem Lw.refl (s:PS):Lw s 0 0 s:=by simp [Lw]
def Dm {α:Type} (c k:Nat) (m:M α):Prop:=∀ s,Okk (m s) (Lw s c k)
theorem within_le {α:Type} (e:Int) (d:Nat) (op cl:Bs) {what:M α} {c k:Nat} (h:Dm c k what) (s:PS):Okk (withinS e d op cl what s) (Lw s (c+4) (k+1)):=by
 unfold withinS
 split
 ·exact .bad
 ·rename_i hw
  have hp:=isS_pos hw
  split
  ·exact .bad
  ·refine Okk.bind (h _) fun a s1 h1=>?_
   have h2:Lw s (c+4) (k+1) s1:=by
    simp only [Lw,List.length_tail] at h1 ⊢;omega
   split
   ·exact .pure h2
   ·refine Okk.bind (want_le _ _ _) fun _ s3 h3=>.pure ?_
    simp only [Lw] at h2 h3 ⊢;omega
theorem rowLoop_le (l:List Bs) {opnd:M Int} (h:Dm 0 0 opnd):∀ n x s,Okk (rowLoop l opnd n x s) (Lw s 0 0):=by
 intro n
 induction n with
 | zero=>exact fun x s=>.pure (Lw.refl s)
 | succ n ih =>
  intro x s
  unfold rowLoop
  split
  ·exact .pure (Lw.refl s)
  ·rename_i t r ht
   split
   ·exact .pure (Lw.refl s)
   ·refine Okk.bind (h _) fun y s1 h1=>?_
    have h2:Lw s 4 1 s1:=by simp only [Lw,ht,List.length_cons] at h1 ⊢;omega
    refine Okk.bind (put_le (c:=3) h2) fun x s3 h3=>(ih x s3).imp fun s4 h4=>?_
    exact (h3.trans h4).weak (by omega) (by omega)
theorem expr_le {una:M Int} (h:Dm 3 1 una):∀ j,Dm 3 1 (exprS una j):=by
 intro j
 induction j with
 | zero=>exact h
 | succ j ih =>
  intro s
  unfold exprS
  refine Okk.bind (ih s) fun x s1 h1=>(rowLoop_le _ (fun s=>(ih s).imp fun s' h'=>h'.weak (by omega) (by omega)) _ x s1).imp fun s2 h2=>?_
  exact h1.trans h2
theorem prim_le (e:Int) (d:Nat) {inner:M Int} (h:Dm 0 0 inner):Dm 3 1 (primS e d inner):=by
 intro s
 unfold primS
 split
 ·exact .bad
 ·rename_i t r ht
  have hs:Lw s 4 1 ⟨r,s.ns,s.mo⟩:=by simp only [Lw,ht,List.length_cons];omega
  split
  ·exact put_le hs
  ·split
   ·refine Okk.bind (within_le e d [91] [93] h _) fun x s1 h1=>put_le ((hs.trans h1).weak (by omega) (by omega))
   ·exact put_le hs
  ·split
   ·exact put_le hs
   ·split
    ·exact put_le hs
    ·split
     ·exact Okk.bind (ident_le e _) fun t' s1 h1=>put_le ((hs.trans h1).weak (by omega) (by omega))
     ·split
      ·exact Okk.bind (ident_le e _) fun t' s1 h1=>put_le ((hs.trans h1).weak (by omega) (by omega))
      ·split
       ·exact (within_le e d [40] [41] h s).imp fun s1 h1=>h1.weak (by omega) (by omega)
       ·exact .bad
theorem unaB_le (e:Int) (d:Nat) {una inner:M Int} (h1:Dm 0 0 una) (h2:Dm 0 0 inner):Dm 3 1 (unaB e d una inner):=by
 intro s
 unfold unaB
 split
 ·exact .bad
 ·split
  ·exact Okk.bind (within_le e d _ _ h1 s) fun x s1 h=>put_le (h.weak (by omega) (by omega))
  ·exact prim_le e d h2 s
theorem una_le (e:Int):∀ d,Dm 3 1 (unaS e d):=by
 intro d
 induction d with
 | zero=>exact unaB_le e 0 (fun s=>.bad) (fun s=>.bad)
 | succ d ih =>
  exact unaB_le e (d+1) (fun s=>(ih s).imp fun s' h=>h.weak (by omega) (by omega)) (fun s=>(expr_le ih 5 s).imp fun s' h=>h.weak (by omega) (by omega))
theorem ex_le (e:Int) (d:Nat):Dm 3 1 (exS e d):=expr_le (una_le e d) 5
theorem Dm.weak {α:Type} {c k c' k':Nat} {m:M α} (h:Dm c k m) (hc:c'≤c) (hk:k'≤k):Dm c' k' m:=fun s=>(h s).imp fun _ h=>h.weak hc hk
theorem in_le (e:Int) (d:Nat):Dm 3 1 (inS e d):=by
 cases d with
 | zero=>exact fun s=>.bad
 | succ d=>exact ex_le e d
theorem index_le (e:Int) (d:Nat):Dm 7 2 (indexS e d):=within_le e d _ _ (in_le e d)
theorem comma_le {α:Type} {one:List α→M (List α)} (h:∀ l,Dm 0 0 (one l)):∀ n l,Dm 0 0 (commaL one n l):=by
 intro n
 induction n with
 | zero=>exact fun l s=>.pure (Lw.refl s)
 | succ n ih =>
  intro l s
  unfold commaL
  split
  ·rename_i hw
   refine Okk.bind (h l (dropS s)) fun l' s1 h1=>(ih l' s1).imp fun s2 h2=>?_
   exact (((drop_le s (isS_pos hw)).trans h1).trans h2).weak (by omega) (by omega)
  ·exact .pure (Lw.refl s)
theorem list_le {α:Type} {one:List α→M (List α)} (h:∀ l,Dm 0 0 (one l)) (l:List α):Dm 0 0 (listS one l):=by
 intro s
 unfold listS
 split
 ·exact .pure (Lw.refl s)
 ·exact Okk.bind (h l s) fun l' s1 h1=>(comma_le h _ l' s1).imp fun s2 h2=>(h1.trans h2).weak (by omega) (by omega)
theorem one_le {m:M Int} {c k:Nat} (h:Dm c k m) (l:List Int):Dm c k (oneS m l):=fun s=>Okk.bind (h s) fun _ _ h1=>.pure h1
theorem call_le (e:Int) (d:Nat) (a:Int) (tx:Bs):Dm 6 2 (callS e d a tx):=by
 intro s
 unfold callS
 refine Okk.bind (ident_le e s) fun t s1 h1=>Okk.bind (put_le (c:=3) h1) fun x s2 h2=>?_
 refine Okk.bind (within_le e d _ _ (list_le (fun l=>one_le ((in_le e d).weak (by omega) (by omega)) l) [x]) s2) fun l s3 h3=>put_le ((h2.trans h3).weak (by omega) (by omega))
theorem chan_le (e:Int):Dm 3 1 (chanS e):=fun s=>Okk.bind (ident_le e s) fun _ _ h=>put_le h
theorem named_le (e:Int) (d:Nat):Dm 3 1 (namedS e d):=by
 intro s
 unfold namedS
 refine Okk.bind (ident_le e s) fun t s1 h1=>?_
 split
 ·exact Okk.bind (index_le e d s1) fun x s2 h2=>Okk.bind (want_le e _ s2) fun _ s3 h3=>Okk.bind (ex_le e d s3) fun y s4 h4 =>
   put_le ((((h1.trans h2).trans h3).trans h4).weak (by omega) (by omega))
 ·refine Okk.bind (want_le e _ s1) fun _ s2 h2=>?_
  have h12:=h1.trans h2
  split
  ·rename_i hw
   exact Okk.bind (chan_le e _) fun x s3 h3=>put_le (((h12.trans (drop_le _ (isS_pos hw))).trans h3).weak (by omega) (by omega))
  ·split
   ·rename_i hw
    exact (call_le e d _ _ _).imp fun s3 h3=>((h12.trans (drop_le _ (isS_pos hw))).trans h3).weak (by omega) (by omega)
   ·split
    ·rename_i hw
     exact Okk.bind (ex_le e d _) fun x s3 h3=>put_le (((h12.trans (drop_le _ (isS_pos hw))).trans h3).weak (by omega) (by omega))
    ·exact Okk.bind (ex_le e d _) fun x s3 h3=>put_le ((h12.trans h3).weak (by omega) (by omega))
theorem plain_le (e:Int) (d:Nat):Dm 3 1 (plainS e d):=by
 intro s
 unfold plainS
 simp only
 split
 ·rename_i hw
  exact Okk.bind (chan_le e _) fun c s1 h1=>Okk.bind (ex_le e d s1) fun x s2 h2=>put_le ((((drop_le s (isS_pos hw)).trans h1).trans h2).weak (by omega) (by omega))
 ·split
  ·rename_i hw
   exact (call_le e d _ _ _).imp fun s1 h1=>((drop_le s (isS_pos hw)).trans h1).weak (by omega) (by omega)
  ·split
   ·rename_i hw
    exact Okk.bind (ex_le e d _) fun x s1 h1=>put_le (((drop_le s (isS_pos hw)).trans h1).weak (by omega) (by omega))
   ·split
    ·rename_i hw
     split
     ·exact put_le (drop_le s (isS_pos hw))
     ·exact Okk.bind (ex_le e d _) fun x s1 h1=>put_le (((drop_le s (isS_pos hw)).trans h1).weak (by omega) (by omega))
    ·exact named_le e d s
theorem stmtsL_le {stmt:M Int} (h:Dm 0 0 stmt):∀ n l,Dm 0 0 (stmtsL stmt n l):=by
 intro n
 induction n with
 | zero=>exact fun l s=>.bad
 | succ n ih =>
  intro l s
  unfold stmtsL
  split
  ·exact .pure (Lw.refl s)
  ·exact Okk.bind (h s) fun x s1 h1=>(ih _ s1).imp fun s2 h2=>(h1.trans h2).weak (by omega) (by omega)
theorem stmts_le {stmt:M Int} (h:Dm 0 0 stmt) (l:List Int):Dm 0 0 (stmtsS stmt l):=fun s=>stmtsL_le h _ l s
theorem block_le (e:Int) (d:Nat) {stmt:M Int} (h:Dm 0 0 stmt):Dm 3 1 (blockB e d stmt):=by
 intro s
 unfold blockB
 simp only
 exact Okk.bind (within_le e d _ _ (stmts_le h []) s) fun l s1 h1=>put_le (h1.weak (by omega) (by omega))
theorem stmtB_le (e:Int) (d:Nat) {stmt:M Int} (h:Dm 0 0 stmt):Dm 3 1 (stmtB e d stmt):=by
 intro s
 unfold stmtB
 simp only
 split
 ·rename_i hw
  refine Okk.bind (ex_le e d _) fun x s1 h1=>Okk.bind (block_le e d h s1) fun a s2 h2=>?_
  have h3:=((drop_le s (isS_pos hw)).trans h1).trans h2
  split
  ·rename_i hw2
   exact Okk.bind (block_le e d h _) fun b s3 h4=>put_le (((h3.trans (drop_le s2 (isS_pos hw2))).trans h4).weak (by omega) (by omega))
  ·exact Okk.bind (put_le (c:=9) (k:=3) (h3.weak (by omega) (by omega))) fun b s3 h4=>put_le (h4.weak (by omega) (by omega))
 ·split
  ·rename_i hw
   exact Okk.bind (ex_le e d _) fun x s1 h1=>Okk.bind (block_le e d h s1) fun a s2 h2=>put_le ((((drop_le s (isS_pos hw)).trans h1).trans h2).weak (by omega) (by omega))
  ·split
   ·rename_i hw
    exact Okk.bind (block_le e d h _) fun a s1 h1=>Okk.bind (want_le e _ s1) fun _ s2 h2=>Okk.bind (ident_le e s2) fun t s3 h3=>Okk.bind (block_le e d h s3) fun b s4 h4 =>
     put_le ((((((drop_le s (isS_pos hw)).trans h1).trans h2).trans h3).trans h4).weak (by omega) (by omega))
   ·exact Okk.bind (plain_le e d s) fun x s1 h1=>Okk.bind (want_le e _ s1) fun _ s2 h2=>.pure ((h1.trans h2).weak (by omega) (by omega))
theorem stmt_le (e:Int):∀ d,Dm 3 1 (stmtS e d):=by
 intro d
 induction d with
 | zero=>exact stmtB_le e 0 (fun s=>.bad)
 | succ d ih=>exact stmtB_le e (d+1) (ih.weak (by omega) (by omega))
theorem inStmt_le (e:Int) (d:Nat):Dm 3 1 (inStmtS e d):=by
 cases d with
 | zero=>exact fun s=>.bad
 | succ d=>exact stmt_le e d
theorem types_pos {ts:List Tok} (h:typesS ts≠0):0<ts.length:=by
 cases ts with
 | nil=>simp [typesS,isS] at h
 | cons t r=>simp
theorem typed_le (e k a:Int) (tx:Bs):Dm 3 1 (typedS e k a tx):=by
 intro s
 unfold typedS
 split
 ·exact .bad
 ·rename_i h
  exact put_le (drop_le s (types_pos (by simpa using h)))
theorem varsL_le (e kind:Int):∀ n l,Dm 0 0 (varsL e kind n l):=by
 intro n
 induction n with
 | zero=>exact fun l s=>.pure (Lw.refl s)
 | succ n ih =>
  intro l s
  unfold varsL
  split
  ·exact .pure (Lw.refl s)
  ·rename_i hw
   exact Okk.bind (ident_le e _) fun t s1 h1=>Okk.bind (typed_le e kind _ _ s1) fun x s2 h2=>Okk.bind (want_le e _ s2) fun _ s3 h3=>(ih _ s3).imp fun s4 h4 =>
    (((((drop_le s (isS_pos hw)).trans h1).trans h2).trans h3).trans h4).weak (by omega) (by omega)
theorem vars_le (e kind:Int):Dm 0 0 (varsS e kind):=fun s=>varsL_le e kind _ [] s
theorem body_le (e:Int) (d:Nat):Dm 3 1 (bodyS e d):=by
 intro s
 unfold bodyS
 simp only
 refine Okk.bind (within_le (c:=0) (k:=0) e d _ _ (fun s=>?_) s) fun p s1 h1=>Okk.bind (put_le (c:=3) (k:=1) (h1.weak (by omega) (by omega))) fun b s2 h2=>.pure h2
 exact Okk.bind (vars_le e 5 s) fun vs s1 h1=>Okk.bind (stmts_le ((inStmt_le e d).weak (by omega) (by omega)) [] s1) fun l s2 h2=>.pure ((h1.trans h2).weak (by omega) (by omega))
theorem param_le (e:Int):Dm 7 2 (paramS e):=fun s=>Okk.bind (ident_le e s) fun t s1 h1=>(typed_le e 4 _ _ s1).imp fun s2 h2=>h1.trans h2
theorem proc_le (e:Int) (d:Nat):Dm 3 1 (procS e d):=by
 intro s
 unfold procS
 simp only
 refine Okk.bind (want_le e _ s) fun _ s1 h1=>Okk.bind (ident_le e s1) fun t s2 h2=>Okk.bind (within_le (c:=0) (k:=0) e d _ _ (list_le (fun l=>(one_le (param_le e) l).weak (by omega) (by omega)) []) s2) fun ps s3 h3=>?_
 have h4:=(h1.trans h2).trans h3
 have h5:Lw s3 0 0 (match decide (typesS s3.ts>0) with
  | true=>dropS s3
  | false=>s3):=by
  split
  ·rename_i h
   have h:typesS s3.ts>0:=by simpa using h
   exact (drop_le s3 (types_pos (by omega))).weak (by omega) (by omega)
  ·exact Lw.refl s3
 exact Okk.bind (body_le e d _) fun p s5 h6=>put_le (((h4.trans h5).trans h6).weak (by omega) (by omega))
theorem procsL_le (e:Int) (d:Nat):∀ n l,Dm 0 0 (procsL e d n l):=by
 intro n
 induction n with
 | zero=>exact fun l s=>.pure (Lw.refl s)
 | succ n ih =>
  intro l s
  unfold procsL
  split
  ·exact .pure (Lw.refl s)
  ·exact Okk.bind (proc_le e d s) fun x s1 h1=>(ih _ s1).imp fun s2 h2=>(h1.trans h2).weak (by omega) (by omega)
theorem varsL_len (e kind:Int):∀ n l s l' s',varsL e kind n l s=.ok l' s'→l'.length+s'.ts.length≤l.length+s.ts.length:=by
 intro n
 induction n with
 | zero=>intro l s l' s' h;simp only [varsL,R.ok.injEq] at h;obtain⟨rfl,rfl⟩:=h;exact Nat.le_refl _
 | succ n ih =>
  intro l s l' s' h
  unfold varsL at h
  split at h
  ·simp only [R.ok.injEq] at h;obtain⟨rfl,rfl⟩:=h;exact Nat.le_refl _
  ·rename_i hw
   obtain⟨t,s1,h1,h⟩:=bind_ok h
   obtain⟨x,s2,h2,h⟩:=bind_ok h
   obtain⟨_,s3,h3,h⟩:=bind_ok h
   have:=ih _ _ _ _ h
   have l1:=(ident_le e _ _ _ h1).2
   have l2:=(typed_le e kind _ _ _ _ _ h2).2
   have l3:=(want_le e _ _ _ _ h3).2
   have l0:=(drop_le s (isS_pos hw)).2
   simp only [List.length_append,List.length_cons,List.length_nil] at this
   omega
theorem body_len (e:Int) (d:Nat) (s:PS) (p:List Int×Int) (s':PS) (h:bodyS e d s=.ok p s'):p.1.length≤s.ts.length:=by
 unfold bodyS at h
 simp only at h
 obtain⟨p1,s1,h1,h⟩:=bind_ok h
 obtain⟨b,s2,h2,h⟩:=bind_ok h
 simp only [R.ok.injEq] at h
 obtain⟨rfl,-⟩:=h
 unfold withinS at h1
 split at h1
 ·simp at h1
 ·split at h1
  ·simp at h1
  ·obtain⟨q,s3,h3,h1⟩:=bind_ok h1
   obtain⟨vs,s4,h4,h3⟩:=bind_ok h3
   obtain⟨l,s5,h5,h3⟩:=bind_ok h3
   simp only [R.ok.injEq] at h3
   obtain⟨rfl,rfl⟩:=h3
   have h6:=varsL_len e 5 _ _ _ _ _ h4
   simp only [List.length_nil,List.length_tail] at h6
   have h7:p1.1=vs:=by
    simp only at h1
    obtain⟨_,s6,_,h1⟩:=bind_ok h1
    simp only [R.ok.injEq] at h1
    rw [← h1.1]
   simp only
   rw [h7];omega
end Go.Ru
namespace Go.Proofs.YtcmepkfefoidcaaGreatDoor
open Go.AE Go.Ru
set_option maxRecDepth 100000
def Fine (d:Nat) (ts:List Tok) (ns:List Nd):Prop:=d≤40∧ns.length+4*ts.length≤900000
def cUna (D:Nat):AC:=fun args K k=>∃ d:Nat,∃ e ts ns mo op X,args=[pp]∧K=encP e ts ns op mo++X∧op=40 - (d:Int)∧d<D∧Fine d ts ns∧After e (unaS e d ⟨ts,ns,mo⟩) intV op X k
def cExJ (D J:Nat):AC:=fun args K k=>∃ d j:Nat,∃ e ts ns mo op kk X,args=[pp,.p (.int .i64 kk)]∧K=encP e ts ns op mo++X∧op=40 - (d:Int)∧kk=5 - (j:Int)∧d<D∧j<J∧J≤6∧Fine d ts ns ∧
 After e (exprS (unaS e d) j ⟨ts,ns,mo⟩) intV op X k
def cPrim (D:Nat):AC:=fun args K k=>∃ d:Nat,∃ e ts ns mo op X,args=[pp]∧K=encP e ts ns op mo++X∧op=40 - (d:Int)∧d≤D∧Fine d ts ns∧After e (primS e d (inS e d) ⟨ts,ns,mo⟩) intV op X k
def gE (D J:Nat):AG:=gput 253 (cUna D) (gput 233 (cExJ D J) g7)
theorem gE_ok {D J:Nat} (hU:COk 253 (cUna D)) (hE:COk 233 (cExJ D J)):GOk Tryz.prog (gE D J):=gput_ok hU (gput_ok hE g7_ok)
theorem nt {b:Bool} (h:(!b)=true):b=false:=by simpa using h
theorem nf {b:Bool} (h:(!b)=false):b=true:=by simpa using h
theorem isS_self {w:Bs} {t:Tok} {r:List Tok} (h:isS w (t::r)=true):isS t.tx (t::r)=true:=by
 obtain⟨k,n,a,tx⟩:=t
 cases k<;>simp_all [isS]
theorem in_op {op:Int} {d:Nat} (ho:op=40 - ((d+1:Nat):Int)) (h:d<1000):IntKind.i64.wrap (op+1)=40 - (d:Int):=by
 rw [w64 (by omega)];omega
theorem in_mo {op mo:Int} {d:Nat} (ho:op=40 - ((d+1:Nat):Int)) (h:d<1000):(if IntKind.i64.wrap (op+1)>mo then IntKind.i64.wrap (op+1) else mo)=moreS (d+1) mo:=by
 rw [in_op ho h,moreS]
 have e:(41:Int) - ((d+1:Nat):Int)=40 - d:=by omega
 rw [e]
theorem out_op {op:Int} {d:Nat} (ho:op=40 - ((d+1:Nat):Int)) (h:d<1000):IntKind.i64.wrap (IntKind.i64.wrap (op+1) - 1)=op:=by
 rw [in_op ho h,w64 (by omega)];omega
theorem unaS_eq (e:Int) (d:Nat) (s:PS):unaS e d s=unaB e d (match d with
 | 0=>fun _=>.bad 0 0
 | d+1=>unaS e d) (inS e d) s:=by cases d<;>rfl
theorem una_step {D:Nat} (hP:COk 270 (cPrim D)) (hU:COk 253 (cUna D)):COk 253 (cUna (D+1)):=by
 rintro args K k ⟨d,e,ts,ns,mo,op,X,rfl,rfl,ho,hd,hf,hk⟩
 refine frameP (G:=gput 270 (cPrim D) (gput 253 (cUna D) g7)) (gput_ok hP (gput_ok hU g7_ok)) 9 rfl fun Q hr hp=>?_
 rw [unaS_eq] at hk
 cases ts with
 | nil =>
  conv=>whnf
  refine⟨by simp,?_⟩
  conv=>whnf
  refine⟨_,_,_,_,_,_,_,rfl,rfl,?_⟩
  conv=>whnf
  refine⟨_,_,_,_,_,_,_,rfl,rfl,?_⟩
  conv=>whnf
  refine⟨_,_,_,_,_,_,_,rfl,rfl,ho,by omega,hf,⟨fun a ts' ns' mo' h=>?_,fun a er h=>?_⟩⟩
  ·conv=>whnf
   exact hr _ _ _ _ _ _ rfl rfl (hk.ok _ _ _ _ h)
  ·conv=>whnf
   exact hp _ _ rfl (hk.bad _ _ h)
 | cons t r =>
  conv=>whnf
  refine⟨by simp;omega,?_⟩
  conv=>whnf
  refine⟨_,_,_,_,_,_,_,rfl,rfl,?_⟩
  conv=>whnf
  refine two_intro (fun h1=>?_) (fun h1=>?_)
  ·have h1:isS [45] (t::r)=false:=nt h1
   conv=>whnf
   refine⟨_,_,_,_,_,_,_,rfl,rfl,?_⟩
   conv=>whnf
   refine two_intro (fun h2=>?_) (fun h2=>?_)
   ·have h2:isS [33] (t::r)=false:=nt h2
    simp only [unaB,h1,h2,Bool.or_false] at hk
    conv=>whnf
    refine⟨_,_,_,_,_,_,_,rfl,rfl,ho,by omega,hf,⟨fun a ts' ns' mo' h=>?_,fun a er h=>?_⟩⟩
    ·conv=>whnf
     exact hr _ _ _ _ _ _ rfl rfl (hk.ok _ _ _ _ h)
    ·conv=>whnf
     exact hp _ _ rfl (hk.bad _ _ h)
   ·have h2:isS [33] (t::r)=true:=nf h2
    simp only [unaB,h1,h2,Bool.or_true] at hk
    have hs:=isS_self h2
    conv=>whnf
    refine⟨_,_,_,_,_,_,_,rfl,rfl,?_⟩
    conv=>whnf
    refine two_true hs ?_
    conv=>whnf
    cases d with
    | zero =>
     refine two_intro (fun h3=>?_) (fun h3=>?_)
     ·conv=>whnf
      refine⟨_,_,_,_,_,_,_,rfl,rfl,?_⟩
      conv=>whnf
      exact hp _ _ rfl (hk.bad _ _ (by simp [withinS,hs,R.bind]))
     ·simp [ho] at h3
    | succ d =>
     refine two_intro (fun h3=>?_) (fun h3=>?_)
     ·simp [ho] at h3;omega
     ·conv=>whnf
      refine⟨_,_,_,_,_,_,_,rfl,rfl,⟨fun a ts' ns' mo' h=>?_,fun a er h=>?_⟩⟩
      ·simp only [wantS,hs,dropS,R.ok.injEq,PS.mk.injEq] at h
       obtain⟨-,rfl,rfl,rfl⟩:=h
       conv=>whnf
       have hd2:d<1000:=by have:=hf.1;omega
       refine⟨d,_,_,_,_,_,_,rfl,rfl,in_op ho hd2,by omega,?_,⟨fun a ts' ns' mo' h=>?_,fun a er h=>?_⟩⟩
       ·simp only [Fine,List.length_cons,List.tail_cons] at hf ⊢;omega
       ·rw [in_mo ho hd2] at h
        simp only [List.tail_cons] at h
        have hl:=una_le e d _ _ _ h
        conv=>whnf
        refine⟨[a],_,_,_,_,_,_,_,_,_,_,_,rfl,rfl,PutK.slr ?_ rfl rfl rfl (allLt_ok ⟨trivial,rfl⟩) ?_⟩
        ·simp only [Fine,Lw,List.length_cons] at hf hl;omega
        conv=>whnf
        rw [out_op ho hd2]
        exact hr _ _ _ _ _ _ rfl rfl (hk.ok _ _ _ _ (by simp [withinS,hs,R.bind,h,putS]))
       ·rw [in_mo ho hd2] at h
        simp only [List.tail_cons] at h
        conv=>whnf
        exact hp _ _ rfl (hk.bad _ _ (by simp [withinS,hs,R.bind,h]))
      ·simp [wantS,hs] at h
  ·have h1:isS [45] (t::r)=true:=nf h1
   simp only [unaB,h1,Bool.true_or] at hk
   have hs:=isS_self h1
   conv=>whnf
   refine⟨_,_,_,_,_,_,_,rfl,rfl,?_⟩
   conv=>whnf
   refine two_true hs ?_
   conv=>whnf
   cases d with
   | zero =>
    refine two_intro (fun h3=>?_) (fun h3=>?_)
    ·conv=>whnf
     refine⟨_,_,_,_,_,_,_,rfl,rfl,?_⟩
     conv=>whnf
     exact hp _ _ rfl (hk.bad _ _ (by simp [withinS,hs,R.bind]))
    ·simp [ho] at h3
   | succ d =>
    refine two_intro (fun h3=>?_) (fun h3=>?_)
    ·simp [ho] at h3;omega
    ·conv=>whnf
     refine⟨_,_,_,_,_,_,_,rfl,rfl,⟨fun a ts' ns' mo' h=>?_,fun a er h=>?_⟩⟩
     ·simp only [wantS,hs,dropS,R.ok.injEq,PS.mk.injEq] at h
      obtain⟨-,rfl,rfl,rfl⟩:=h
      conv=>whnf
      have hd2:d<1000:=by have:=hf.1;omega
      refine⟨d,_,_,_,_,_,_,rfl,rfl,in_op ho hd2,by omega,?_,⟨fun a ts' ns' mo' h=>?_,fun a er h=>?_⟩⟩
      ·simp only [Fine,List.length_cons,List.tail_cons] at hf ⊢;omega
      ·rw [in_mo ho hd2] at h
       simp only [List.tail_cons] at h
       have hl:=una_le e d _ _ _ h
       conv=>whnf
       refine⟨[a],_,_,_,_,_,_,_,_,_,_,_,rfl,rfl,PutK.slr ?_ rfl rfl rfl (allLt_ok ⟨trivial,rfl⟩) ?_⟩
       ·simp only [Fine,Lw,List.length_cons] at hf hl;omega
       conv=>whnf
       rw [out_op ho hd2]
       exact hr _ _ _ _ _ _ rfl rfl (hk.ok _ _ _ _ (by simp [withinS,hs,R.bind,h,putS]))
      ·rw [in_mo ho hd2] at h
       simp only [List.tail_cons] at h
       conv=>whnf
       exact hp _ _ rfl (hk.bad _ _ (by simp [withinS,hs,R.bind,h]))
     ·simp [wantS,hs] at h
def cIndex (D:Nat):AC:=fun args K k=>∃ d:Nat,∃ e ts ns mo op X,args=[pp]∧K=encP e ts ns op mo++X∧op=40 - (d:Int)∧d≤D∧Fine d ts ns∧After e (indexS e d ⟨ts,ns,mo⟩) intV op X k
theorem index_ok {D:Nat} (hE:COk 233 (cExJ D 6)):COk 274 (cIndex D):=by
 rintro args K k ⟨d,e,ts,ns,mo,op,X,rfl,rfl,ho,hd,hf,hk⟩
 refine frameP (G:=gput 233 (cExJ D 6) g7) (gput_ok hE g7_ok) 9 rfl fun Q hr hp=>?_
 conv=>whnf
 by_cases hw:isS [91] ts=true
 ·refine⟨_,_,_,_,_,_,_,rfl,rfl,?_⟩
  conv=>whnf
  refine two_true hw ?_
  conv=>whnf
  cases d with
  | zero =>
   refine two_intro (fun h3=>?_) (fun h3=>?_)
   ·conv=>whnf
    refine⟨_,_,_,_,_,_,_,rfl,rfl,?_⟩
    conv=>whnf
    exact hp _ _ rfl (hk.bad _ _ (by simp [indexS,withinS,hw,R.bind]))
   ·simp [ho] at h3
  | succ d =>
   refine two_intro (fun h3=>?_) (fun h3=>?_)
   ·simp [ho] at h3;omega
   ·conv=>whnf
    refine⟨_,_,_,_,_,_,_,rfl,rfl,⟨fun a ts' ns' mo' h=>?_,fun a er h=>?_⟩⟩
    ·simp only [wantS,hw,dropS,R.ok.injEq,PS.mk.injEq] at h
     obtain⟨-,rfl,rfl,rfl⟩:=h
     conv=>whnf
     have hd2:d<1000:=by have:=hf.1;omega
     have hl0:=isS_pos hw
     refine⟨d,5,_,_,_,_,_,_,_,rfl,rfl,in_op ho hd2,rfl,by omega,by omega,by omega,?_,⟨fun x ts' ns' mo' h=>?_,fun a er h=>?_⟩⟩
     ·simp only [Fine,List.length_cons,List.length_tail] at hf hl0 ⊢;omega
     ·rw [in_mo ho hd2] at h
      have hl:=ex_le e d _ _ _ h
      conv=>whnf
      refine⟨_,_,_,_,_,_,_,rfl,rfl,⟨fun u ts2 ns2 mo2 h2=>?_,fun a er h2=>?_⟩⟩
      ·have hl2:=want_le _ _ _ _ _ h2
       conv=>whnf
       rw [out_op ho hd2]
       exact hr _ _ _ _ _ _ rfl rfl (hk.ok _ _ _ _ (by
        have h:inS e (d+1) _=_:=h
        have h2:wantS e [93] _=_:=h2
        simp only [indexS,withinS,hw,h,h2,R.bind]))
      ·conv=>whnf
       exact hp _ _ rfl (hk.bad _ _ (by
        have h:inS e (d+1) _=_:=h
        have h2:wantS e [93] _=_:=h2
        simp only [indexS,withinS,hw,h,h2,R.bind]))
     ·rw [in_mo ho hd2] at h
      conv=>whnf
      exact hp _ _ rfl (hk.bad _ _ (by
       have h:inS e (d+1) _=_:=h
       simp only [indexS,withinS,hw,h,R.bind]))
    ·simp [wantS,hw] at h
 ·have hw:isS [91] ts=false:=by simpa using hw
  refine⟨_,_,_,_,_,_,_,rfl,rfl,?_⟩
  conv=>whnf
  refine two_false hw ?_
  conv=>whnf
  refine⟨_,_,_,_,_,_,_,rfl,rfl,⟨fun a ts' ns' mo' h=>?_,fun a er h=>?_⟩⟩
  ·simp [wantS,hw] at h
  ·simp only [wantS,hw,R.bad.injEq] at h
   obtain⟨rfl,rfl⟩:=h
   conv=>whnf
   exact hp _ _ rfl (hk.bad _ _ (by simp only [indexS,withinS,hw]))
theorem prim_ok {D:Nat} (hE:COk 233 (cExJ D 6)):COk 270 (cPrim D):=by
 rintro args K k ⟨d,e,ts,ns,mo,op,X,rfl,rfl,ho,hd,hf,hk⟩
 refine frameP (G:=gput 274 (cIndex D) (gput 233 (cExJ D 6) g7)) (gput_ok (index_ok hE) (gput_ok hE g7_ok)) 9 rfl fun Q hr hp=>?_
 cases ts with
 | nil =>
  conv=>whnf
  refine⟨by simp,?_⟩
  conv=>whnf
  refine⟨_,_,_,_,_,_,_,rfl,rfl,⟨fun h=>by simp [isS] at h,fun _=>?_⟩⟩
  conv=>whnf
  refine⟨_,_,_,_,_,_,_,rfl,rfl,⟨fun h=>by simp [isS] at h,fun _=>?_⟩⟩
  conv=>whnf
  refine⟨_,_,_,_,_,_,_,rfl,rfl,⟨fun h=>by simp [isS] at h,fun _=>?_⟩⟩
  conv=>whnf
  refine⟨_,_,_,_,_,_,_,rfl,rfl,⟨fun h=>by simp [isS] at h,fun _=>?_⟩⟩
  conv=>whnf
  refine⟨_,_,_,_,_,_,_,rfl,rfl,?_⟩
  conv=>whnf
  refine⟨_,_,_,_,_,_,rfl,rfl,⟨fun a ts' ns' mo' h=>by simp [identS] at h,fun a er h=>?_⟩⟩
  simp only [identS,R.bad.injEq] at h
  obtain⟨rfl,rfl⟩:=h
  conv=>whnf
  exact hp _ _ rfl (hk.bad _ _ rfl)
 | cons t r =>
  obtain⟨tk,tn,ta,tx⟩:=t
  have hn:ns.length<1000000:=by simp only [Fine] at hf;omega
  cases tk with
  | number =>
   conv=>whnf
   refine⟨by simp;omega,?_⟩
   conv=>whnf
   refine⟨_,_,_,_,_,_,_,rfl,rfl,?_⟩
   conv=>whnf
   refine⟨[],_,_,_,_,_,_,_,_,_,_,_,rfl,rfl,PutK.nils hn ?_⟩
   conv=>whnf
   exact hr _ _ _ _ _ _ rfl rfl (hk.ok _ _ _ _ rfl)
  | name =>
   conv=>whnf
   refine⟨by simp;omega,?_⟩
   conv=>whnf
   refine⟨_,_,_,_,_,_,_,rfl,rfl,⟨fun h=>by simp [isS] at h,fun _=>?_⟩⟩
   conv=>whnf
   refine⟨_,_,_,_,_,_,_,rfl,rfl,⟨fun h=>by simp [isS] at h,fun _=>?_⟩⟩
   conv=>whnf
   refine⟨_,_,_,_,_,_,_,rfl,rfl,⟨fun h=>by simp [isS] at h,fun _=>?_⟩⟩
   conv=>whnf
   refine⟨_,_,_,_,_,_,_,rfl,rfl,⟨fun h=>by simp [isS] at h,fun _=>?_⟩⟩
   conv=>whnf
   refine⟨_,_,_,_,_,_,_,rfl,rfl,?_⟩
   conv=>whnf
   refine⟨_,_,_,_,_,_,rfl,rfl,⟨fun a ts' ns' mo' h=>?_,fun a er h=>by simp [identS] at h⟩⟩
   simp only [identS,R.ok.injEq,PS.mk.injEq] at h
   obtain⟨rfl,rfl,rfl,rfl⟩:=h
   conv=>whnf
   refine⟨_,_,_,_,_,_,_,rfl,rfl,?_⟩
   conv=>whnf
   refine two_intro (fun h1=>?_) (fun h1=>?_)
   ·have h1:isS [91] r=true:=h1
    simp only [primS,h1] at hk
    conv=>whnf
    refine⟨d,_,_,_,_,_,_,rfl,rfl,ho,hd,?_,⟨fun x ts' ns' mo' h=>?_,fun a er h=>?_⟩⟩
    ·simp only [Fine,List.length_cons] at hf ⊢;omega
    ·have hl:=index_le _ _ _ _ _ h
     conv=>whnf
     refine⟨[x],_,_,_,_,_,_,_,_,_,_,_,rfl,rfl,PutK.slr ?_ rfl rfl rfl (allLt_ok ⟨trivial,rfl⟩) ?_⟩
     ·simp only [Fine,Lw,List.length_cons] at hf hl;omega
     conv=>whnf
     exact hr _ _ _ _ _ _ rfl rfl (hk.ok _ _ _ _ (by
      have h:withinS e d [91] [93] (inS e d) _=_:=h
      simp only [h,R.bind,putS]))
    ·conv=>whnf
     exact hp _ _ rfl (hk.bad _ _ (by
      have h:withinS e d [91] [93] (inS e d) _=_:=h
      simp only [h,R.bind]))
   ·have h1:isS [91] r=false:=h1
    simp only [primS,h1] at hk
    conv=>whnf
    refine⟨[],_,_,_,_,_,_,_,_,_,_,_,rfl,rfl,PutK.nils hn ?_⟩
    conv=>whnf
    exact hr _ _ _ _ _ _ rfl rfl (hk.ok _ _ _ _ rfl)
  | _ =>
   conv=>whnf
   refine⟨by simp;omega,?_⟩
   conv=>whnf
   refine⟨_,_,_,_,_,_,_,rfl,rfl,⟨fun h=>?_,fun h=>?_⟩⟩
   ·have g0:(tx==[116,114,117,101])=true:=h
    simp only [primS,g0] at hk
    conv=>whnf
    refine⟨[],_,_,_,_,_,_,_,_,_,_,_,rfl,rfl,PutK.nils hn ?_⟩
    conv=>whnf
    exact hr _ _ _ _ _ _ rfl rfl (hk.ok _ _ _ _ rfl)
   have g0:(tx==[116,114,117,101])=false:=h
   conv=>whnf
   refine⟨_,_,_,_,_,_,_,rfl,rfl,⟨fun h=>?_,fun h=>?_⟩⟩
   ·have g1:(tx==[102,97,108,115,101])=true:=h
    simp only [primS,g0,g1] at hk
    conv=>whnf
    refine⟨[],_,_,_,_,_,_,_,_,_,_,_,rfl,rfl,PutK.nils hn ?_⟩
    conv=>whnf
    exact hr _ _ _ _ _ _ rfl rfl (hk.ok _ _ _ _ rfl)
   have g1:(tx==[102,97,108,115,101])=false:=h
   conv=>whnf
   refine⟨_,_,_,_,_,_,_,rfl,rfl,⟨fun h=>?_,fun h=>?_⟩⟩
   ·have g2:(tx==[108,101,110])=true:=h
    simp only [primS,g0,g1,g2] at hk
    conv=>whnf
    refine⟨_,_,_,_,_,_,rfl,rfl,⟨fun t' ts' ns' mo' h=>?_,fun a er h=>?_⟩⟩
    ·have hl:=ident_le _ _ _ _ h
     have h:identS e ⟨r,ns,mo⟩=_:=h
     conv=>whnf
     refine⟨by conv=>whnf,?_⟩
     conv=>whnf
     refine⟨by conv=>whnf,?_⟩
     conv=>whnf
     refine⟨[],_,_,_,_,_,_,_,_,_,_,_,rfl,rfl,PutK.nils (by simp only [Fine,Lw,List.length_cons,List.length_tail] at hf hl;omega) ?_⟩
     conv=>whnf
     exact hr _ _ _ _ _ _ rfl rfl (hk.ok _ _ _ _ (by simp only [h,R.bind,putS]))
    ·have h:identS e ⟨r,ns,mo⟩=_:=h
     conv=>whnf
     exact hp _ _ rfl (hk.bad _ _ (by simp only [h,R.bind]))
   have g2:(tx==[108,101,110])=false:=h
   conv=>whnf
   refine⟨_,_,_,_,_,_,_,rfl,rfl,⟨fun h=>?_,fun h=>?_⟩⟩
   ·have g3:(tx==[38])=true:=h
    simp only [primS,g0,g1,g2,g3] at hk
    conv=>whnf
    refine⟨_,_,_,_,_,_,rfl,rfl,⟨fun t' ts' ns' mo' h=>?_,fun a er h=>?_⟩⟩
    ·have hl:=ident_le _ _ _ _ h
     have h:identS e ⟨r,ns,mo⟩=_:=h
     conv=>whnf
     refine⟨by conv=>whnf,?_⟩
     conv=>whnf
     refine⟨by conv=>whnf,?_⟩
     conv=>whnf
     refine⟨[],_,_,_,_,_,_,_,_,_,_,_,rfl,rfl,PutK.nils (by simp only [Fine,Lw,List.length_cons,List.length_tail] at hf hl;omega) ?_⟩
     conv=>whnf
     exact hr _ _ _ _ _ _ rfl rfl (hk.ok _ _ _ _ (by simp only [h,R.bind,putS]))
    ·have h:identS e ⟨r,ns,mo⟩=_:=h
     conv=>whnf
     exact hp _ _ rfl (hk.bad _ _ (by simp only [h,R.bind]))
   have g3:(tx==[38])=false:=h
   conv=>whnf
   refine⟨_,_,_,_,_,_,_,rfl,rfl,?_⟩
   conv=>whnf
   refine two_intro (fun h=>?_) (fun h=>?_)
   ·have g4:(tx==[40])=true:=h
    simp only [primS,g0,g1,g2,g3,g4] at hk
    have hw:isS [40] (⟨_,tn,ta,tx⟩::r)=true:=h
    conv=>whnf
    refine⟨_,_,_,_,_,_,_,rfl,rfl,?_⟩
    conv=>whnf
    refine two_true hw ?_
    conv=>whnf
    cases d with
    | zero =>
     refine two_intro (fun h3=>?_) (fun h3=>?_)
     ·conv=>whnf
      refine⟨_,_,_,_,_,_,_,rfl,rfl,?_⟩
      conv=>whnf
      exact hp _ _ rfl (hk.bad _ _ (by simp [withinS,hw,R.bind]))
     ·simp [ho] at h3
    | succ d =>
     refine two_intro (fun h3=>?_) (fun h3=>?_)
     ·simp [ho] at h3;omega
     ·conv=>whnf
      refine⟨_,_,_,_,_,_,_,rfl,rfl,⟨fun a ts' ns' mo' h=>?_,fun a er h=>?_⟩⟩
      ·simp only [wantS,hw,dropS,R.ok.injEq,PS.mk.injEq] at h
       obtain⟨-,rfl,rfl,rfl⟩:=h
       conv=>whnf
       have hd2:d<1000:=by have:=hf.1;omega
       have hl0:=isS_pos hw
       refine⟨d,5,_,_,_,_,_,_,_,rfl,rfl,in_op ho hd2,rfl,by omega,by omega,by omega,?_,⟨fun x ts' ns' mo' h=>?_,fun a er h=>?_⟩⟩
       ·simp only [Fine,List.length_cons,List.length_tail] at hf hl0 ⊢;omega
       ·rw [in_mo ho hd2] at h
        have hl:=ex_le e d _ _ _ h
        conv=>whnf
        refine⟨_,_,_,_,_,_,_,rfl,rfl,⟨fun u ts2 ns2 mo2 h2=>?_,fun a er h2=>?_⟩⟩
        ·have hl2:=want_le _ _ _ _ _ h2
         conv=>whnf
         rw [out_op ho hd2]
         exact hr _ _ _ _ _ _ rfl rfl (hk.ok _ _ _ _ (by
          have h:inS e (d+1) _=_:=h
          have h2:wantS e [41] _=_:=h2
          simp only [withinS,hw,h,h2,R.bind]))
        ·conv=>whnf
         exact hp _ _ rfl (hk.bad _ _ (by
          have h:inS e (d+1) _=_:=h
          have h2:wantS e [41] _=_:=h2
          simp only [withinS,hw,h,h2,R.bind]))
       ·rw [in_mo ho hd2] at h
        conv=>whnf
        exact hp _ _ rfl (hk.bad _ _ (by
         have h:inS e (d+1) _=_:=h
         simp only [withinS,hw,h,R.bind]))
      ·simp [wantS,hw] at h
   ·have g4:(tx==[40])=false:=h
    simp only [primS,g0,g1,g2,g3,g4] at hk
    conv=>whnf
    refine⟨_,_,_,_,_,_,rfl,rfl,⟨fun a ts' ns' mo' h=>by simp [identS] at h,fun a er h=>?_⟩⟩
    simp only [identS,R.bad.injEq] at h
    obtain⟨rfl,rfl⟩:=h
    conv=>whnf
    exact hp _ _ rfl (hk.bad _ _ rfl)
structure LS where
 x:Int
 ts:List Tok
 ns:List Nd
 mo:Int
 n:Nat
theorem rowLoop_no {l:List Bs} {o:M Int} {n:Nat} {x:Int} {s:PS} (h:anyS l s.ts=false):rowLoop l o n x s=.ok x s:=by
 cases n with
 | zero=>rfl
 | succ n =>
  unfold rowLoop
  split
  ·rfl
  ·rename_i t r ht
   rw [ht] at h
   rw [h]
theorem anyS_cons {l:List Bs} {ts:List Tok} (h:anyS l ts=true):∃ t r,ts=t::r:=by
 cases ts with
 | nil =>
  induction l with
  | nil=>simp [anyS] at h
  | cons w l ih =>
   simp only [anyS,List.any_cons,isS,Bool.false_or] at h ih
   exact ih h
 | cons t r=>exact⟨t,r,rfl⟩
theorem rowS_len (j:Nat):(rowS j).length<1000:=by
 unfold rowS
 split<;>simp
theorem expr_step {D J:Nat} (hU:COk 253 (cUna D)) (hE:COk 233 (cExJ D J)):COk 233 (cExJ D (J+1)):=by
 rintro args K k ⟨d,j,e,ts,ns,mo,op,kk,X,rfl,rfl,ho,hkk,hd,hj,hJ,hf,hk⟩
 refine frameP (gE_ok hU hE) 9 rfl fun Q hr hp=>?_
 cases j with
 | zero =>
  conv=>whnf
  refine two_true (by simp;omega) ?_
  conv=>whnf
  refine⟨d,_,_,_,_,_,_,rfl,rfl,ho,hd,hf,⟨fun x ts' ns' mo' h=>?_,fun a er h=>?_⟩⟩
  ·conv=>whnf
   exact hr _ _ _ _ _ _ rfl rfl (hk.ok _ _ _ _ h)
  ·conv=>whnf
   exact hp _ _ rfl (hk.bad _ _ h)
 | succ j =>
  conv=>whnf
  refine two_false (by simp;omega) ?_
  conv=>whnf
  refine⟨d,j,_,_,_,_,_,_,_,rfl,rfl,ho,by rw [w64 (by omega)];omega,hd,by omega,by omega,hf,⟨fun x ts' ns' mo' h=>?_,fun a er h=>?_⟩⟩
  ·conv=>whnf
   have hl:=expr_le (una_le e d) j _ _ _ h
   have h0:exprS (unaS e d) (j+1) ⟨ts,ns,mo⟩=rowLoop (rowS j) (exprS (unaS e d) j) ts'.length x ⟨ts',ns',mo'⟩:=by
    simp only [exprS,h,R.bind]
   rw [h0] at hk
   generalize hR0:rowLoop (rowS j) (exprS (unaS e d) j) ts'.length x ⟨ts',ns',mo'⟩=R0 at hk
   refine loop_by (ι:=LS) (fun i=>⟨[(0,pp),(1,.p (.int .i64 kk)),(5,intV i.x)],encP e i.ts i.ns op i.mo⟩)
    (fun i=>i.ts.length≤i.n∧i.ns.length+4*i.ts.length≤900000∧rowLoop (rowS j) (exprS (unaS e d) j) i.n i.x ⟨i.ts,i.ns,i.mo⟩=R0)
    (fun i=>i.ts.length) ⟨x,ts',ns',mo',ts'.length⟩ ⟨AV.le_refl _,AV.le_refl _,AV.le_refl _,trivial⟩ (lesK.refl _) ⟨Nat.le_refl _,?_,?_⟩ ?_
   ·simp only [Fine,Lw] at hf hl ⊢;omega
   ·exact hR0
   have hd4:=hf.1
   clear hR0 h h0 hl hf
   rintro Y hle ⟨x,ts,ns,mo,n⟩ ⟨hn,hb,hR⟩ ih
   simp only at hn hb hR
   conv=>whnf
   refine⟨j,kk,by omega,rfl,by omega,?_⟩
   conv=>whnf
   refine⟨_,_,_,_,_,_,_,rfl,rfl,rowS_len j,?_⟩
   conv=>whnf
   refine two_intro (fun h1=>?_) (fun h1=>?_)
   ·obtain⟨t,r,rfl⟩:=anyS_cons h1
    conv=>whnf
    refine⟨_,_,_,_,_,_,_,rfl,rfl,?_⟩
    conv=>whnf
    cases n with
    | zero=>simp at hn
    | succ n =>
    simp only [List.length_cons] at hn hb
    refine⟨d,j,_,_,_,_,_,_,_,rfl,rfl,ho,by rw [w64 (by omega)];omega,hd,by omega,by omega,⟨hd4,by show ns.length+4*r.length≤900000;omega⟩,⟨fun y ts2 ns2 mo2 h=>?_,fun a er h=>?_⟩⟩
    ·have hl:=expr_le (una_le e d) j _ _ _ h
     simp only [Lw] at hl
     conv=>whnf
     refine⟨[x,y],_,_,_,_,_,_,_,_,_,_,_,rfl,rfl,PutK.slr ?_ rfl rfl rfl (allLt_ok ⟨⟨trivial,rfl⟩,rfl⟩) ?_⟩
     ·omega
     conv=>whnf
     refine hle _ _ (AE.Le.cutEnv 2 rfl rfl ⟨rfl,fun i _=>rfl,trivial⟩ ?_ (lesK.refl _)) (ih ⟨ns2.length,ts2,ns2++[⟨27,0,t.at_,t.tx,[x,y]⟩],mo2,n⟩ ?_ ⟨?_,?_,?_⟩)
     ·exact⟨AV.le_refl _,AV.le_refl _,AV.le_refl _,trivial⟩
     ·simp only [List.length_cons];omega
     ·simp only;omega
     ·simp only [List.length_append,List.length_cons,List.length_nil];omega
     ·rw [← hR]
      simp only at h
      have h1:anyS (rowS j) (t::r)=true:=h1
      simp only [rowLoop,h1,h,R.bind,putS]
    ·simp only at h
     have h1:anyS (rowS j) (t::r)=true:=h1
     simp only [rowLoop,h1,h,R.bind] at hR
     subst hR
     conv=>whnf
     exact hp _ _ rfl (hk.bad _ _ rfl)
   ·rw [rowLoop_no h1] at hR
    subst hR
    conv=>whnf
    exact hr _ _ _ _ _ _ rfl rfl (hk.ok _ _ _ _ rfl)
  ·conv=>whnf
   exact hp _ _ rfl (hk.bad _ _ (by simp only [exprS,h,R.bind]))
theorem exJ_zero (D:Nat):COk 233 (cExJ D 0):=by
 rintro args K k ⟨d,j,e,ts,ns,mo,op,kk,X,-,-,-,-,-,hj,-⟩
 omega
theorem all_ok (D:Nat):COk 253 (cUna D)∧COk 233 (cExJ D 6)∧COk 270 (cPrim D):=by
 have hx:∀ D,COk 253 (cUna D)→COk 233 (cExJ D 6):=fun D hU =>
  expr_step hU (expr_step hU (expr_step hU (expr_step hU (expr_step hU (expr_step hU (exJ_zero D))))))
 induction D with
 | zero =>
  have h0:COk 253 (cUna 0):=by
   rintro args K k ⟨d,e,ts,ns,mo,op,X,-,-,-,h,-⟩
   omega
  exact⟨h0,hx 0 h0,prim_ok (hx 0 h0)⟩
 | succ D ih =>
  have h1:=una_step ih.2.2 ih.1
  exact⟨h1,hx _ h1,prim_ok (hx _ h1)⟩
theorem bindA {α β γ:Type} (r:R α) (f:α→PS→R β) (g:β→PS→R γ):(r.bind f).bind g=r.bind fun a s=>(f a s).bind g:=by cases r<;>rfl
theorem bindO {α β:Type} (a:α) (s:PS) (f:α→PS→R β):(R.ok a s).bind f=f a s:=rfl
def AK {α:Type} (r:R α) (ok:α→PS→Prop) (bad:Int→Int→Prop):Prop:=match r with
 | .ok a s=>ok a s
 | .bad a e=>bad a e
theorem After.ak {α:Type} {e:Int} {r:R α} {val:α→AV} {op:Int} {X:List ABlk} {k:AO→List ABlk→Prop} (h:After e r val op X k) :
  AK r (fun a s=>k (.ret (val a)) (encP e s.ts s.ns op s.mo++X)) (fun a er=>k (.pan (wrongV a er)) (deads 2++X)):=by
 cases hr:r with
 | ok a s=>exact h.ok _ _ _ _ hr
 | bad a e=>exact h.bad _ _ hr
theorem AK.step {α β:Type} {r:R α} {f:α→PS→R β} {ok:β→PS→Prop} {bad:Int→Int→Prop} (h:AK (r.bind f) ok bad) {e:Int} {val:α→AV} {op:Int} {X:List ABlk} {k:AO→List ABlk→Prop}
  {p:PS→Prop} (hp:Okk r p)
  (h1:∀ a ts' ns' mo',p ⟨ts',ns',mo'⟩→AK (f a ⟨ts',ns',mo'⟩) ok bad→k (.ret (val a)) (encP e ts' ns' op mo'++X))
  (h2:∀ a er,bad a er→k (.pan (wrongV a er)) (deads 2++X)):After e r val op X k:=by
 cases r with
 | ok a s=>exact⟨fun a' ts' ns' mo' hr=>by injection hr with e1 e2;subst e1;subst e2;exact h1 _ _ _ _ (hp _ _ rfl) h,fun _ _ hr=>by simp at hr⟩
 | bad a er=>exact⟨fun _ _ _ _ hr=>by simp at hr,fun a' e' hr=>by injection hr with e1 e2;subst e1;subst e2;exact h2 _ _ h⟩
theorem AK.stepv {α β:Type} {r:R α} {f:α→PS→R β} {ok:β→PS→Prop} {bad:Int→Int→Prop} (h:AK (r.bind f) ok bad) {e:Int} {val:α→AV} {op:Int} {X:List ABlk} {k:AO→List ABlk→Prop}
  {p:α→PS→Prop} (hp:∀ a s,r=.ok a s→p a s)
  (h1:∀ a ts' ns' mo',p a ⟨ts',ns',mo'⟩→AK (f a ⟨ts',ns',mo'⟩) ok bad→k (.ret (val a)) (encP e ts' ns' op mo'++X))
  (h2:∀ a er,bad a er→k (.pan (wrongV a er)) (deads 2++X)):After e r val op X k:=by
 cases r with
 | ok a s=>exact⟨fun a' ts' ns' mo' hr=>by injection hr with e1 e2;subst e1;subst e2;exact h1 _ _ _ _ (hp _ _ rfl) h,fun _ _ hr=>by simp at hr⟩
 | bad a er=>exact⟨fun _ _ _ _ hr=>by simp at hr,fun a' e' hr=>by injection hr with e1 e2;subst e1;subst e2;exact h2 _ _ h⟩
theorem AK.last {β:Type} {r:R β} {ok:β→PS→Prop} {bad:Int→Int→Prop} (h:AK r ok bad) {e:Int} {val:β→AV} {op:Int} {X:List ABlk} {k:AO→List ABlk→Prop}
  (h1:∀ a ts' ns' mo',ok a ⟨ts',ns',mo'⟩→k (.ret (val a)) (encP e ts' ns' op mo'++X))
  (h2:∀ a er,bad a er→k (.pan (wrongV a er)) (deads 2++X)):After e r val op X k:=by
 cases r with
 | ok a s=>exact⟨fun a' ts' ns' mo' hr=>by injection hr with e1 e2;subst e1;subst e2;exact h1 _ _ _ _ h,fun _ _ hr=>by simp at hr⟩
 | bad a er=>exact⟨fun _ _ _ _ hr=>by simp at hr,fun a' e' hr=>by injection hr with e1 e2;subst e1;subst e2;exact h2 _ _ h⟩
theorem AK.within {α β:Type} {e:Int} {d:Nat} {op cl:Bs} {what:M α} {ts:List Tok} {ns:List Nd} {mo:Int} {f:α→PS→R β} {ok:β→PS→Prop} {bad:Int→Int→Prop}
  (h:AK ((withinS e (d+1) op cl what ⟨ts,ns,mo⟩).bind f) ok bad) (hw:isS op ts=true) (hc:cl≠[]) :
  AK ((what ⟨ts.tail,ns,moreS (d+1) mo⟩).bind fun a s=>(wantS e cl s).bind fun _ s=>f a s) ok bad:=by
 simp only [withinS,hw] at h
 generalize what ⟨ts.tail,ns,moreS (d+1) mo⟩=r at h ⊢
 cases r with
 | bad a e=>exact h
 | ok a s =>
  simp only [R.bind] at h ⊢
  cases cl with
  | nil=>exact absurd rfl hc
  | cons c l =>
   generalize wantS e (c::l) s=r at h ⊢
   cases r<;>exact h
theorem AK.within_no {α β:Type} {e:Int} {d:Nat} {op cl:Bs} {what:M α} {ts:List Tok} {ns:List Nd} {mo:Int} {f:α→PS→R β} {ok:β→PS→Prop} {bad:Int→Int→Prop}
  (h:AK ((withinS e d op cl what ⟨ts,ns,mo⟩).bind f) ok bad) (hw:isS op ts=false):bad (hd e ts) 2:=by
 simp only [withinS,hw] at h;exact h
theorem AK.within_deep {α β:Type} {e:Int} {op cl:Bs} {what:M α} {ts:List Tok} {ns:List Nd} {mo:Int} {f:α→PS→R β} {ok:β→PS→Prop} {bad:Int→Int→Prop}
  (h:AK ((withinS e 0 op cl what ⟨ts,ns,mo⟩).bind f) ok bad) (hw:isS op ts=true):bad (hd e ts) 6:=by
 simp only [withinS,hw] at h;exact h
def cEx:AC:=fun args K k=>∃ d:Nat,∃ e ts ns mo op X,args=[pp,.p (.int .i64 0)]∧K=encP e ts ns op mo++X∧op=40 - (d:Int)∧Fine d ts ns∧After e (exS e d ⟨ts,ns,mo⟩) intV op X k
theorem ex_ok:COk 233 cEx:=by
 rintro args K k ⟨d,e,ts,ns,mo,op,X,rfl,rfl,ho,hf,hk⟩
 have:=hf.1
 exact (all_ok 41).2.1 _ _ _ ⟨d,5,e,ts,ns,mo,op,0,X,rfl,rfl,ho,rfl,by omega,by omega,by omega,hf,hk⟩
theorem idx_ok':COk 274 (cIndex 41):=index_ok (all_ok 41).2.1
structure Fin (d c:Nat) (ts:List Tok) (ns:List Nd):Prop where
 d:d≤40
 s:ns.length+4*ts.length+c≤900000
theorem Fine.fin {d:Nat} {ts:List Tok} {ns:List Nd} (h:Fine d ts ns):Fin d 0 ts ns:=⟨h.1,h.2⟩
theorem Fin.fine {d c:Nat} {ts:List Tok} {ns:List Nd} (h:Fin d c ts ns):Fine d ts ns:=⟨h.1,by have:=h.2;omega⟩
theorem Fin.sz {d c:Nat} {ts:List Tok} {ns:List Nd} (h:Fin d c ts ns):ns.length<1000000:=by have:=h.2;omega
theorem Fin.st {d c c' k:Nat} {ts ts':List Tok} {ns ns':List Nd} {mo mo':Int} (h:Fin d c ts ns) (hl:Lw ⟨ts,ns,mo⟩ c' k ⟨ts',ns',mo'⟩):Fin d (c+c') ts' ns' :=
 ⟨h.1,by have:=h.2;have:=hl.1;simp only at this;omega⟩
theorem Fin.pt {d c:Nat} {ts:List Tok} {ns:List Nd} {n:Nd} (h:Fin d (c+1) ts ns):Fin d c ts (ns++[n]):=⟨h.1,by have:=h.2;simp only [List.length_append,List.length_cons,List.length_nil];omega⟩
theorem Fin.opn {d c:Nat} {ts:List Tok} {ns:List Nd} {w:Bs} (h:Fin (d+1) c ts ns) (hw:isS w ts=true):Fin d (c+4) ts.tail ns :=
 ⟨by have:=h.1;omega,by have:=h.2;have:=isS_pos hw;simp only [List.length_tail];omega⟩
theorem Fin.sk {d c:Nat} {ts:List Tok} {ns:List Nd} {w:Bs} (h:Fin d c ts ns) (hw:isS w ts=true):Fin d (c+4) ts.tail ns :=
 ⟨h.1,by have:=h.2;have:=isS_pos hw;simp only [List.length_tail];omega⟩
theorem Fin.lo {d c c':Nat} {ts:List Tok} {ns:List Nd} (h:Fin d c ts ns) (hc:c'≤c):Fin d c' ts ns:=⟨h.1,by have:=h.2;omega⟩
def cChan:AC:=fun args K k=>∃ d:Nat,∃ e ts ns mo op X,args=[pp]∧K=encP e ts ns op mo++X∧Fine d ts ns∧After e (chanS e ⟨ts,ns,mo⟩) intV op X k
theorem chan_ok:COk 256 cChan:=by
 rintro args K k ⟨d,e,ts,ns,mo,op,X,rfl,rfl,hf,hk⟩
 refine frameP g7_ok 9 rfl fun Q hr hp=>?_
 have hk:=hk.ak
 have hf:=hf.fin
 unfold chanS at hk
 conv=>whnf
 refine⟨_,_,_,_,_,_,rfl,rfl,hk.step (ident_le _ _) (fun t ts ns mo hl hk=>?_) (fun a er hb=>by ((conv=>whnf);exact hp _ _ rfl hb))⟩
 have hf:=hf.st hl
 conv=>whnf
 refine⟨[],_,_,_,_,_,_,_,_,_,_,_,rfl,rfl,PutK.nils hf.sz ?_⟩
 conv=>whnf
 exact hr _ _ _ _ _ _ rfl rfl hk
def g8:AG:=gput 233 cEx (gput 274 (cIndex 41) (gput 256 cChan g7))
theorem g8_ok:GOk Tryz.prog g8:=gput_ok ex_ok (gput_ok idx_ok' (gput_ok chan_ok g7_ok))
structure LC where
 ts:List Tok
 ns:List Nd
 mo:Int
 l:List Int
 n:Nat
def kidA (l:List Int):ABlk:=.arr 3 1 0 l.length fun i=>pvs (kidF l i)
theorem kidA_snoc (l:List Int) (x:Int) (f:Nat→List AV) (hf:f 0=[intV x]):(ABlk.arr 3 1 0 (l.length+1) (catF l.length (fun i=>pvs (kidF l i)) f)).le (kidA (l++[x])):=by
 refine ABlk.arr_eq (by simp) fun i hi=>?_
 by_cases h:i<l.length
 ·rw [catF_lt h]
  simp [kidF,List.getD_eq_getElem?_getD,List.getElem?_append_left h]
 ·obtain rfl:i=l.length:=by omega
  rw [catF_ge (Nat.le_refl _),Nat.sub_self,hf]
  simp [kidF,List.getD_eq_getElem?_getD,pvs,intV]
theorem kid_cl (l:List Int) (x:Int) (f:Nat→List AV) (n:Nat) (hf:f 0=[intV x]):(ABlk.arr 3 1 0 (l.length+1) (catF l.length (fun i=>pvs (kidF l i)) f)).cl n:=fun i hi=>by
 by_cases h:i<l.length
 ·rw [catF_lt h];rfl
 ·obtain rfl:i=l.length:=by omega
  rw [catF_ge (Nat.le_refl _),Nat.sub_self,hf];rfl
def cCall:AC:=fun args K k=>∃ d:Nat,∃ e ts ns mo op kd at_ tx X,args=[pp,.agg [.p (.int .i64 kd),.p (.int .i64 0),.p (.int .i64 at_),.p (.str tx),.p .nils]]∧K=encP e ts ns op mo++X∧op=40 - (d:Int)∧Fine d ts ns ∧
 After e (callS e d at_ tx ⟨ts,ns,mo⟩) intV op X k
theorem call_ok2:COk 257 cCall:=by
 rintro args K k ⟨d,e,ts,ns,mo,op,kd,at_,tx,X,rfl,rfl,ho,hf,hk⟩
 refine frameP g8_ok 19 rfl fun Q hr hp=>?_
 have hk:=hk.ak
 have hf:=hf.fin
 unfold callS at hk
 conv=>whnf
 refine⟨_,_,_,_,_,_,rfl,rfl,hk.step (ident_le _ _) (fun t ts ns mo hl hk=>?_) (fun a er hb=>by ((conv=>whnf);exact hp _ _ rfl hb))⟩
 have hf:=hf.st hl
 conv=>whnf
 refine⟨[],_,_,_,_,_,_,_,_,_,_,_,rfl,rfl,PutK.nils hf.sz ?_⟩
 conv=>whnf
 replace hk:AK ((withinS e d [40] [41] (listS (oneS (inS e d)) [(ns.length:Int)]) ⟨ts,ns++[⟨19,0,t.at_,t.tx,[]⟩],mo⟩).bind fun l s=>putS ⟨13,0,at_,tx,l⟩ s) _ _:=hk
 have hf:=hf.pt (n:=⟨19,0,t.at_,t.tx,[]⟩)
 generalize ns++[⟨19,0,t.at_,t.tx,[]⟩]=ns at hk hf
 cases hw:isS [40] ts with
 | false =>
  have hb:=hk.within_no hw
  refine⟨_,_,_,_,_,_,_,rfl,rfl,?_⟩
  conv=>whnf
  refine two_false hw ?_
  conv=>whnf
  refine⟨_,_,_,_,_,_,_,rfl,rfl,⟨fun a ts' ns' mo' h=>by simp [wantS,hw] at h,fun a er h=>?_⟩⟩
  simp only [wantS,hw,R.bad.injEq] at h
  obtain⟨rfl,rfl⟩:=h
  ((conv=>whnf);exact hp _ _ rfl hb)
 | true =>
  refine⟨_,_,_,_,_,_,_,rfl,rfl,?_⟩
  conv=>whnf
  refine two_true hw ?_
  conv=>whnf
  cases d with
  | zero =>
   have hb:=hk.within_deep hw
   refine two_true (by simp [ho]) ?_
   conv=>whnf
   refine⟨_,_,_,_,_,_,_,rfl,rfl,?_⟩
   ((conv=>whnf);exact hp _ _ rfl hb)
  | succ d =>
  refine two_false (by simp [ho];omega) ?_
  conv=>whnf
  refine⟨_,_,_,_,_,_,_,rfl,rfl,⟨fun a ts' ns' mo' h=>?_,fun a er h=>by simp [wantS,hw] at h⟩⟩
  simp only [wantS,hw,dropS,R.ok.injEq,PS.mk.injEq] at h
  obtain⟨-,rfl,rfl,rfl⟩:=h
  have hd2:d<1000:=by have:=hf.1;omega
  have hk:=hk.within hw (by simp)
  rw [← in_mo ho hd2] at hk
  have hf:=hf.opn hw
  conv=>whnf
  refine⟨_,_,_,_,_,_,_,rfl,rfl,?_⟩
  conv=>whnf
  refine two_intro (fun h2=>?_) (fun h2=>?_)
  ·have h2:isS [41] ts.tail=true:=h2
   simp only [listS,h2,bindO] at hk
   conv=>whnf
   refine⟨_,_,_,_,_,_,_,rfl,rfl,hk.step (want_le _ _ _) (fun t ts ns mo hl hk=>?_) (fun a er hb=>by ((conv=>whnf);exact hp _ _ rfl hb))⟩
   have hf:=hf.st hl
   conv=>whnf
   refine⟨[_],_,_,_,_,_,_,_,_,_,_,_,rfl,rfl,PutK.slr hf.sz rfl rfl rfl (allLt_ok ⟨trivial,rfl⟩) ?_⟩
   conv=>whnf
   rw [out_op ho hd2]
   exact hr _ _ _ _ _ _ rfl rfl hk
  ·have h2:isS [41] ts.tail=false:=h2
   simp only [listS,h2,oneS,bindA,bindO] at hk
   conv=>whnf
   refine⟨d,_,_,_,_,_,_,rfl,rfl,in_op ho hd2,hf.fine,hk.step (ex_le _ _ _) (fun x ts ns mo hl hk=>?_) (fun a er hb=>by ((conv=>whnf);exact hp _ _ rfl hb))⟩
   have hf:=hf.st hl
   conv=>whnf
   refine⟨by conv=>whnf,?_⟩
   conv=>whnf
   refine⟨by conv=>whnf,?_⟩
   conv=>whnf
   refine⟨⟨rfl,rfl,rfl,allLt_ok ⟨trivial,rfl⟩⟩,?_⟩
   conv=>whnf
   refine⟨⟨rfl,rfl,rfl,rfl,by decide,by decide⟩,?_⟩
   conv=>whnf
   refine loop_cut (ι:=LC) 7 (fun i=>⟨[(0,pp),(1,.fn 273 [] [.ptr 6 0 1 0 0,.ptr 2 0 1 0 0])],
     encP e i.ts i.ns (IntKind.i64.wrap (op+1)) i.mo++[.box 123 [pp],.box 82 [.p (.int .i64 kd),.p (.int .i64 0),.p (.int .i64 at_),.p (.str tx),.p .nils],.box 160 [.p (.int .i64 t.k.code),.p (.int .i64 t.n),.p (.int .i64 t.at_),.p (.str t.tx)],kidA i.l,.box 23 [.slr 5 0 0 i.l.length]]⟩)
    (fun i=>i.ts.length≤i.n∧i.n≤900000∧i.l.length+i.ts.length≤900000∧Fin d 3 i.ts i.ns∧AK ((commaL (oneS (inS e (d+1))) i.n i.l ⟨i.ts,i.ns,i.mo⟩).bind fun l s=>(wantS e [41] s).bind fun _ s=>putS ⟨13,0,at_,tx,l⟩ s)
     (fun a s=>k (.ret (intV a)) (encP e s.ts s.ns op s.mo++X)) (fun a er=>k (.pan (wrongV a er)) (deads 2++X)))
    (fun i=>i.n) ⟨ts,ns,mo,[_,_],ts.length⟩ rfl rfl ⟨AV.le_refl _,AV.le_refl _,trivial⟩ ⟨rfl,fun _ _=>rfl,rfl,rfl,rfl,allLt_ok ⟨⟨trivial,rfl⟩,rfl⟩,rfl,trivial⟩ ⟨ABlk.le_refl _,ABlk.le_refl _,ABlk.le_refl _,ABlk.le_refl _,ABlk.le_refl _,ABlk.arr_eq rfl (allLt_ok ⟨⟨trivial,rfl⟩,rfl⟩),ABlk.le_refl _,trivial⟩
    ⟨Nat.le_refl _,?_,?_,hf.lo (by omega),hk⟩ ?_
   ·have:=hf.s;show ts.length≤900000;omega
   ·have:=hf.s;show 2+ts.length≤900000;omega
   clear hk hf hl
   rintro Y hle ⟨ts,ns,mo,l,n⟩ ⟨hn,hn2,hln,hf,hk⟩ ih
   simp only at hn hn2 hln hf hk
   conv=>whnf
   refine⟨_,_,_,_,_,_,_,rfl,rfl,⟨fun h=>?_,fun h=>?_⟩⟩
   ·cases n with
    | zero=>have:=isS_pos h;simp only at this;omega
    | succ n =>
    have h:isS [44] ts=true:=h
    simp only [commaL,h,oneS,bindA,bindO,dropS] at hk
    conv=>whnf
    refine⟨d,_,_,_,_,_,_,rfl,rfl,in_op ho hd2,(hf.sk h).fine,hk.step (ex_le _ _ _) (fun x ts2 ns2 mo2 hl hk=>?_) (fun a er hb=>by ((conv=>whnf);exact hp _ _ rfl hb))⟩
    have hf:=(hf.sk h).st hl
    have hpos:=isS_pos h
    conv=>whnf
    refine⟨by conv=>whnf,?_⟩
    conv=>whnf
    refine⟨by conv=>whnf,?_⟩
    conv=>whnf
    refine⟨⟨rfl,rfl,rfl,allLt_ok ⟨trivial,rfl⟩⟩,?_⟩
    conv=>whnf
    refine⟨⟨rfl,rfl,rfl,rfl,?_,?_⟩,?_⟩
    ·show (l.length+1)*8≤140737488355328
     omega
    ·show l.length+1≤9223372036854775807
     omega
    conv=>whnf
    have hl2:=hl.2
    simp only [List.length_tail] at hl2
    refine hle _ _ (Le.cutEnv 7 rfl rfl ⟨rfl,fun _ _=>rfl,rfl,rfl,rfl,?_,rfl,trivial⟩ ?_ ?_) (ih ⟨ts2,ns2,mo2,l++[x],n⟩ (by simp only;omega) ⟨?_,?_,?_,hf.lo (by omega),hk⟩)
    ·exact kid_cl l x _ 7 rfl
    ·exact⟨AV.le_refl _,AV.le_refl _,trivial⟩
    ·exact⟨ABlk.le_refl _,ABlk.le_refl _,ABlk.le_refl _,ABlk.le_refl _,ABlk.le_refl _,kidA_snoc l x _ rfl,ABlk.le_of_eq (by simp),trivial⟩
    ·simp only;omega
    ·simp only;omega
    ·simp only [List.length_append,List.length_cons,List.length_nil];omega
   ·have h:isS [44] ts=false:=h
    have hk:AK ((wantS e [41] ⟨ts,ns,mo⟩).bind fun _ s=>putS ⟨13,0,at_,tx,l⟩ s) (fun a s=>k (.ret (intV a)) (encP e s.ts s.ns op s.mo++X)) (fun a er=>k (.pan (wrongV a er)) (deads 2++X)):=by
     cases n with
     | zero=>exact hk
     | succ n=>simp only [commaL,h,bindO] at hk;exact hk
    conv=>whnf
    refine⟨_,_,_,_,_,_,_,rfl,rfl,hk.step (want_le _ _ _) (fun _ ts ns mo hl hk=>?_) (fun a er hb=>by ((conv=>whnf);exact hp _ _ rfl hb))⟩
    have hf:=hf.st hl
    conv=>whnf
    refine⟨l,_,_,_,_,_,_,_,_,_,_,_,rfl,rfl,PutK.slr hf.sz rfl rfl rfl (fun _ _=>rfl) ?_⟩
    conv=>whnf
    rw [out_op ho hd2]
    exact hr _ _ _ _ _ _ rfl rfl hk
def g9:AG:=gput 257 cCall g8
theorem g9_ok:GOk Tryz.prog g9:=gput_ok call_ok2 g8_ok
def cNamed:AC:=fun args K k=>∃ d:Nat,∃ e ts ns mo op X,args=[pp]∧K=encP e ts ns op mo++X∧op=40 - (d:Int)∧Fine d ts ns ∧
 After e (namedS e d ⟨ts,ns,mo⟩) intV op X k
theorem named_ok:COk 258 cNamed:=by
 rintro args K k ⟨d,e,ts,ns,mo,op,X,rfl,rfl,ho,hf,hk⟩
 refine frameP g9_ok 19 rfl fun Q hr hp=>?_
 have hk:=hk.ak
 have hf:=hf.fin
 have hd:=hf.d
 unfold namedS at hk
 conv=>whnf
 refine⟨_,_,_,_,_,_,rfl,rfl,hk.step (ident_le _ _) (fun t ts ns mo hl hk=>?_) (fun a er hb=>by ((conv=>whnf);exact hp _ _ rfl hb))⟩
 have hf:=hf.st hl
 conv=>whnf
 refine⟨_,_,_,_,_,_,_,rfl,rfl,?_⟩
 conv=>whnf
 refine two_intro (fun h=>?_) (fun h=>?_)
 ·have h:isS [91] ts=true:=h
  simp only [h] at hk
  conv=>whnf
  refine⟨d,_,_,_,_,_,_,rfl,rfl,ho,by omega,hf.fine,hk.step (index_le _ _ _) (fun x ts ns mo hl hk=>?_) (fun a er hb=>by ((conv=>whnf);exact hp _ _ rfl hb))⟩
  have hf:=hf.st hl
  conv=>whnf
  refine⟨_,_,_,_,_,_,_,rfl,rfl,hk.step (want_le _ _ _) (fun _ ts ns mo hl hk=>?_) (fun a er hb=>by ((conv=>whnf);exact hp _ _ rfl hb))⟩
  have hf:=hf.st hl
  conv=>whnf
  refine⟨d,_,_,_,_,_,_,rfl,rfl,ho,hf.fine,hk.step (ex_le _ _ _) (fun y ts ns mo hl hk=>?_) (fun a er hb=>by ((conv=>whnf);exact hp _ _ rfl hb))⟩
  have hf:=hf.st hl
  conv=>whnf
  refine⟨[x,y],_,_,_,_,_,_,_,_,_,_,_,rfl,rfl,PutK.slr hf.sz rfl rfl rfl (allLt_ok ⟨⟨trivial,rfl⟩,rfl⟩) ?_⟩
  conv=>whnf
  exact hr _ _ _ _ _ _ rfl rfl hk
 ·have h:isS [91] ts=false:=h
  simp only [h] at hk
  conv=>whnf
  refine⟨_,_,_,_,_,_,_,rfl,rfl,hk.step (want_le _ _ _) (fun _ ts ns mo hl hk=>?_) (fun a er hb=>by ((conv=>whnf);exact hp _ _ rfl hb))⟩
  have hf:=hf.st hl
  conv=>whnf
  refine⟨_,_,_,_,_,_,_,rfl,rfl,⟨fun h=>?_,fun h=>?_⟩⟩
  ·have h:isS [105,110] ts=true:=h
   simp only [h,dropS] at hk
   conv=>whnf
   refine⟨d,_,_,_,_,_,_,rfl,rfl,(hf.sk h).fine,hk.step (chan_le _ _) (fun x ts2 ns2 mo2 hl hk=>?_) (fun a er hb=>by ((conv=>whnf);exact hp _ _ rfl hb))⟩
   have hf:=(hf.sk h).st hl
   conv=>whnf
   refine⟨[x],_,_,_,_,_,_,_,_,_,_,_,rfl,rfl,PutK.slr hf.sz rfl rfl rfl (allLt_ok ⟨trivial,rfl⟩) ?_⟩
   conv=>whnf
   exact hr _ _ _ _ _ _ rfl rfl hk
  have h:isS [105,110] ts=false:=h
  simp only [h] at hk
  conv=>whnf
  refine⟨_,_,_,_,_,_,_,rfl,rfl,⟨fun h=>?_,fun h=>?_⟩⟩
  ·have h:isS [99,97,108,108] ts=true:=h
   simp only [h,dropS] at hk
   conv=>whnf
   refine⟨d,_,_,_,_,_,_,_,_,_,rfl,rfl,ho,(hf.sk h).fine,hk.last (fun x ts2 ns2 mo2 hk=>?_) (fun a er hb=>by ((conv=>whnf);exact hp _ _ rfl hb))⟩
   conv=>whnf
   exact hr _ _ _ _ _ _ rfl rfl hk
  have h:isS [99,97,108,108] ts=false:=h
  simp only [h] at hk
  conv=>whnf
  refine⟨_,_,_,_,_,_,_,rfl,rfl,⟨fun h=>?_,fun h=>?_⟩⟩
  ·have h:isS [110,101,119] ts=true:=h
   simp only [h,dropS] at hk
   conv=>whnf
   refine⟨d,_,_,_,_,_,_,rfl,rfl,ho,(hf.sk h).fine,hk.step (ex_le _ _ _) (fun x ts2 ns2 mo2 hl hk=>?_) (fun a er hb=>by ((conv=>whnf);exact hp _ _ rfl hb))⟩
   have hf:=(hf.sk h).st hl
   conv=>whnf
   refine⟨[x],_,_,_,_,_,_,_,_,_,_,_,rfl,rfl,PutK.slr hf.sz rfl rfl rfl (allLt_ok ⟨trivial,rfl⟩) ?_⟩
   conv=>whnf
   exact hr _ _ _ _ _ _ rfl rfl hk
  have h:isS [110,101,119] ts=false:=h
  simp only [h] at hk
  conv=>whnf
  refine⟨d,_,_,_,_,_,_,rfl,rfl,ho,hf.fine,hk.step (ex_le _ _ _) (fun x ts2 ns2 mo2 hl hk=>?_) (fun a er hb=>by ((conv=>whnf);exact hp _ _ rfl hb))⟩
  have hf:=hf.st hl
  conv=>whnf
  refine⟨[x],_,_,_,_,_,_,_,_,_,_,_,rfl,rfl,PutK.slr hf.sz rfl rfl rfl (allLt_ok ⟨trivial,rfl⟩) ?_⟩
  conv=>whnf
  exact hr _ _ _ _ _ _ rfl rfl hk
def g10:AG:=gput 258 cNamed g9
theorem g10_ok:GOk Tryz.prog g10:=gput_ok named_ok g9_ok
def cPlain:AC:=fun args K k=>∃ d:Nat,∃ e ts ns mo op X,args=[pp]∧K=encP e ts ns op mo++X∧op=40 - (d:Int)∧Fine d ts ns ∧
 After e (plainS e d ⟨ts,ns,mo⟩) intV op X k
def hdK:List Tok→Int
 | []=>5
 | t::_=>t.k.code
def hdN:List Tok→Int
 | []=>0
 | t::_=>t.n
def hdT:List Tok→Bs
 | []=>[]
 | t::_=>t.tx
theorem enc_hd (e:Int) (ts:List Tok):encs e ts (Int.toNat 0)=[.int .i64 (hdK ts),.int .i64 (hdN ts),.int .i64 (hd e ts),.str (hdT ts)]:=by cases ts<;>rfl
theorem plain_ok:COk 235 cPlain:=by
 rintro args K k ⟨d,e,ts,ns,mo,op,X,rfl,rfl,ho,hf,hk⟩
 refine frameP g10_ok 19 rfl fun Q hr hp=>?_
 have hk:=hk.ak
 have hf:=hf.fin
 have hd:=hf.d
 unfold plainS at hk
 simp only at hk
 conv=>whnf
 refine⟨by simp<;>omega,?_⟩
 conv=>whnf
 rw [enc_hd]
 conv=>whnf
 refine⟨_,_,_,_,_,_,_,rfl,rfl,⟨fun h=>?_,fun h=>?_⟩⟩
 ·have h:isS [111,117,116] ts=true:=h
  simp only [h,dropS] at hk
  conv=>whnf
  refine⟨d,_,_,_,_,_,_,rfl,rfl,(hf.sk h).fine,hk.step (chan_le _ _) (fun c ts2 ns2 mo2 hl hk=>?_) (fun a er hb=>by ((conv=>whnf);exact hp _ _ rfl hb))⟩
  have hf:=(hf.sk h).st hl
  conv=>whnf
  refine⟨d,_,_,_,_,_,_,rfl,rfl,ho,hf.fine,hk.step (ex_le _ _ _) (fun x ts3 ns3 mo3 hl hk=>?_) (fun a er hb=>by ((conv=>whnf);exact hp _ _ rfl hb))⟩
  have hf:=hf.st hl
  conv=>whnf
  refine⟨[c,x],_,_,_,_,_,_,_,_,_,_,_,rfl,rfl,PutK.slr hf.sz rfl rfl rfl (allLt_ok ⟨⟨trivial,rfl⟩,rfl⟩) ?_⟩
  conv=>whnf
  exact hr _ _ _ _ _ _ rfl rfl hk
 have h:isS [111,117,116] ts=false:=h
 simp only [h] at hk
 conv=>whnf
 refine⟨_,_,_,_,_,_,_,rfl,rfl,⟨fun h=>?_,fun h=>?_⟩⟩
 ·have h:isS [99,97,108,108] ts=true:=h
  simp only [h,dropS] at hk
  conv=>whnf
  refine⟨d,_,_,_,_,_,_,_,_,_,rfl,rfl,ho,(hf.sk h).fine,hk.last (fun x ts2 ns2 mo2 hk=>?_) (fun a er hb=>by ((conv=>whnf);exact hp _ _ rfl hb))⟩
  conv=>whnf
  exact hr _ _ _ _ _ _ rfl rfl hk
 have h:isS [99,97,108,108] ts=false:=h
 simp only [h] at hk
 conv=>whnf
 refine⟨_,_,_,_,_,_,_,rfl,rfl,⟨fun h=>?_,fun h=>?_⟩⟩
 ·have h:isS [116,104,114,111,119] ts=true:=h
  simp only [h,dropS] at hk
  conv=>whnf
  refine⟨d,_,_,_,_,_,_,rfl,rfl,ho,(hf.sk h).fine,hk.step (ex_le _ _ _) (fun x ts2 ns2 mo2 hl hk=>?_) (fun a er hb=>by ((conv=>whnf);exact hp _ _ rfl hb))⟩
  have hf:=(hf.sk h).st hl
  conv=>whnf
  refine⟨[x],_,_,_,_,_,_,_,_,_,_,_,rfl,rfl,PutK.slr hf.sz rfl rfl rfl (allLt_ok ⟨trivial,rfl⟩) ?_⟩
  conv=>whnf
  exact hr _ _ _ _ _ _ rfl rfl hk
 have h:isS [116,104,114,111,119] ts=false:=h
 simp only [h] at hk
 conv=>whnf
 refine⟨_,_,_,_,_,_,_,rfl,rfl,⟨fun h=>?_,fun h=>?_⟩⟩
 ·have h:isS [114,101,116,117,114,110] ts=true:=h
  simp only [h,dropS] at hk
  have hf:=hf.sk h
  conv=>whnf
  refine⟨_,_,_,_,_,_,_,rfl,rfl,?_⟩
  conv=>whnf
  refine two_intro (fun h=>?_) (fun h=>?_)
  ·have h:isS [59] ts.tail=true:=h
   simp only [h] at hk
   conv=>whnf
   refine⟨[],_,_,_,_,_,_,_,_,_,_,_,rfl,rfl,PutK.nils hf.sz ?_⟩
   conv=>whnf
   exact hr _ _ _ _ _ _ rfl rfl hk
  ·have h:isS [59] ts.tail=false:=h
   simp only [h] at hk
   conv=>whnf
   refine⟨d,_,_,_,_,_,_,rfl,rfl,ho,hf.fine,hk.step (ex_le _ _ _) (fun x ts2 ns2 mo2 hl hk=>?_) (fun a er hb=>by ((conv=>whnf);exact hp _ _ rfl hb))⟩
   have hf:=hf.st hl
   conv=>whnf
   refine⟨[x],_,_,_,_,_,_,_,_,_,_,_,rfl,rfl,PutK.slr hf.sz rfl rfl rfl (allLt_ok ⟨trivial,rfl⟩) ?_⟩
   conv=>whnf
   exact hr _ _ _ _ _ _ rfl rfl hk
 have h:isS [114,101,116,117,114,110] ts=false:=h
 simp only [h] at hk
 conv=>whnf
 refine⟨d,_,_,_,_,_,_,rfl,rfl,ho,hf.fine,hk.last (fun x ts2 ns2 mo2 hk=>?_) (fun a er hb=>by ((conv=>whnf);exact hp _ _ rfl hb))⟩
 conv=>whnf
 exact hr _ _ _ _ _ _ rfl rfl hk
def g11:AG:=gput 235 cPlain g10
theorem g11_ok:GOk Tryz.prog g11:=gput_ok plain_ok g10_ok
def cStmt (D:Nat):AC:=fun args K k=>∃ d:Nat,∃ e ts ns mo op X,args=[pp]∧K=encP e ts ns op mo++X∧op=40 - (d:Int)∧d<D∧Fine d ts ns∧After e (stmtS e d ⟨ts,ns,mo⟩) intV op X k
def cBlock (D:Nat):AC:=fun args K k=>∃ d:Nat,∃ e ts ns mo op X,args=[pp]∧K=encP e ts ns op mo++X∧op=40 - (d:Int)∧d≤D∧Fine d ts ns∧After e (blockB e d (inStmtS e d) ⟨ts,ns,mo⟩) intV op X k
theorem block_ok {D:Nat} (hS:COk 213 (cStmt D)):COk 234 (cBlock D):=by
 rintro args K k ⟨d,e,ts,ns,mo,op,X,rfl,rfl,ho,hd,hf,hk⟩
 refine frameP (G:=gput 213 (cStmt D) g11) (gput_ok hS g11_ok) 19 rfl fun Q hr hp=>?_
 have hk:=hk.ak
 have hf:=hf.fin
 unfold blockB at hk
 simp only at hk
 conv=>whnf
 refine⟨by simp<;>omega,?_⟩
 conv=>whnf
 rw [enc_hd]
 conv=>whnf
 cases hw:isS [123] ts with
 | false =>
  have hb:=hk.within_no hw
  refine⟨_,_,_,_,_,_,_,rfl,rfl,?_⟩
  conv=>whnf
  refine two_false hw ?_
  conv=>whnf
  refine⟨_,_,_,_,_,_,_,rfl,rfl,⟨fun a ts' ns' mo' h=>by simp [wantS,hw] at h,fun a er h=>?_⟩⟩
  simp only [wantS,hw,R.bad.injEq] at h
  obtain⟨rfl,rfl⟩:=h
  ((conv=>whnf);exact hp _ _ rfl hb)
 | true =>
  refine⟨_,_,_,_,_,_,_,rfl,rfl,?_⟩
  conv=>whnf
  refine two_true hw ?_
  conv=>whnf
  cases d with
  | zero =>
   have hb:=hk.within_deep hw
   refine two_true (by simp [ho]) ?_
   conv=>whnf
   refine⟨_,_,_,_,_,_,_,rfl,rfl,?_⟩
   ((conv=>whnf);exact hp _ _ rfl hb)
  | succ d =>
  refine two_false (by simp [ho];omega) ?_
  conv=>whnf
  refine⟨_,_,_,_,_,_,_,rfl,rfl,⟨fun a ts' ns' mo' h=>?_,fun a er h=>by simp [wantS,hw] at h⟩⟩
  simp only [wantS,hw,dropS,R.ok.injEq,PS.mk.injEq] at h
  obtain⟨-,rfl,rfl,rfl⟩:=h
  have hd2:d<1000:=by have:=hf.1;omega
  have hk:=hk.within hw (by simp)
  rw [← in_mo ho hd2] at hk
  have hf:=hf.opn hw
  conv=>whnf
  refine loop_nil (ι:=LC) 3 1 (fun i=>pvs (kidF [] i)) (fun i=>⟨[(1,.ptr 2 0 1 0 0),(3,.ptr 6 0 1 0 0)],
    encP e i.ts i.ns (IntKind.i64.wrap (op+1)) i.mo++[.box 123 [pp],.box 4 [.p (.bool false)],.box 82 [.p (.int .i64 6),.p (.int .i64 0),.p (.int .i64 (Ru.hd e ts)),.p (.str []),.p .nils],.box 23 [.p .nils],.box 23 [.slr 7 0 0 i.l.length],kidA i.l]⟩)
   (fun i=>i.ts.length<i.n∧i.n≤900001∧i.l.length+i.ts.length≤900000∧Fin d 3 i.ts i.ns∧AK ((stmtsL (stmtS e d) i.n i.l ⟨i.ts,i.ns,i.mo⟩).bind fun l s=>(wantS e [125] s).bind fun _ s=>putS ⟨6,0,Ru.hd e ts,[],l⟩ s)
    (fun a s=>k (.ret (intV a)) (encP e s.ts s.ns op s.mo++X)) (fun a er=>k (.pan (wrongV a er)) (deads 2++X)))
   (fun i=>i.n) ⟨ts.tail,ns,(if IntKind.i64.wrap (op+1)>mo then IntKind.i64.wrap (op+1) else mo),[],ts.tail.length+1⟩
   (encP e ts.tail ns (IntKind.i64.wrap (op+1)) (if IntKind.i64.wrap (op+1)>mo then IntKind.i64.wrap (op+1) else mo)++[.box 123 [pp],.box 4 [.p (.bool false)],.box 82 [.p (.int .i64 6),.p (.int .i64 0),.p (.int .i64 (Ru.hd e ts)),.p (.str []),.p .nils],.box 23 [.p .nils],.box 23 [.slr 7 0 0 0]])
   rfl ⟨.inl (AV.le_refl _),.inl (AV.le_refl _),trivial⟩
   ?_ rfl
   ⟨Nat.lt_succ_self _,?_,?_,hf.lo (by omega),hk⟩ ?_
  ·exact⟨.inl (ABlk.le_refl _),.inl (ABlk.le_refl _),.inl (ABlk.le_refl _),.inl (ABlk.le_refl _),.inl (ABlk.le_refl _),.inl (ABlk.le_refl _),.inr ⟨_,_,_,rfl,rfl,.inr ⟨rfl,rfl⟩,trivial⟩,trivial⟩
  ·have:=hf.s;show ts.tail.length+1≤900001;omega
  ·have:=hf.s;show 0+ts.tail.length≤900000;omega
  clear hk hf
  rintro Y hle ⟨ts,ns,mo,l,n⟩ ⟨hn,hn2,hln,hf,hk⟩ ih
  simp only at hn hn2 hln hf hk
  cases n with
  | zero=>omega
  | succ n =>
  conv=>whnf
  refine⟨_,_,_,_,_,_,_,rfl,rfl,?_⟩
  conv=>whnf
  refine two_intro (fun h=>?_) (fun h=>?_)
  ·have h:isS [125] ts=false:=nt h
   simp only [stmtsL,h,bindA] at hk
   conv=>whnf
   refine⟨d,_,_,_,_,_,_,rfl,rfl,in_op ho hd2,by omega,hf.fine,hk.step (stmt_le _ _ _) (fun x ts2 ns2 mo2 hl hk=>?_) (fun a er hb=>by ((conv=>whnf);exact hp _ _ rfl hb))⟩
   have hf:=hf.st hl
   conv=>whnf
   refine⟨by conv=>whnf,?_⟩
   conv=>whnf
   refine⟨by conv=>whnf,?_⟩
   conv=>whnf
   refine⟨⟨rfl,rfl,rfl,allLt_ok ⟨trivial,rfl⟩⟩,?_⟩
   conv=>whnf
   refine⟨⟨rfl,rfl,rfl,rfl,?_,?_⟩,?_⟩
   ·show (l.length+1)*8≤140737488355328
    omega
   ·show l.length+1≤9223372036854775807
    omega
   conv=>whnf
   have hl2:=hl.2
   simp only at hl2
   refine hle _ _ (Le.cutEnv 8 rfl rfl ⟨rfl,fun _ _=>rfl,rfl,rfl,rfl,rfl,rfl,?_,trivial⟩ ?_ ?_) (ih ⟨ts2,ns2,mo2,l++[x],n⟩ (by simp only;omega) ⟨?_,?_,?_,hf.lo (by omega),hk⟩)
   ·exact kid_cl l x _ 8 rfl
   ·exact⟨AV.le_refl _,AV.le_refl _,trivial⟩
   ·exact⟨ABlk.le_refl _,ABlk.le_refl _,ABlk.le_refl _,ABlk.le_refl _,ABlk.le_refl _,ABlk.le_refl _,ABlk.le_of_eq (by simp),kidA_snoc l x _ rfl,trivial⟩
   ·simp only;omega
   ·simp only;omega
   ·simp only [List.length_append,List.length_cons,List.length_nil];omega
  ·have h:isS [125] ts=true:=nf h
   simp only [stmtsL,h,bindO] at hk
   conv=>whnf
   refine⟨_,_,_,_,_,_,_,rfl,rfl,hk.step (want_le _ _ _) (fun _ ts ns mo hl hk=>?_) (fun a er hb=>by ((conv=>whnf);exact hp _ _ rfl hb))⟩
   have hf:=hf.st hl
   conv=>whnf
   refine⟨l,_,_,_,_,_,_,_,_,_,_,_,rfl,rfl,PutK.slr hf.sz rfl rfl rfl (fun _ _=>rfl) ?_⟩
   conv=>whnf
   refine⟨by conv=>whnf,?_⟩
   conv=>whnf
   rw [out_op ho hd2]
   exact hr _ _ _ _ _ _ rfl rfl hk
theorem stmtS_eq (e:Int) (d:Nat) (s:PS):stmtS e d s=stmtB e d (inStmtS e d) s:=by cases d<;>rfl
theorem blk_le (e:Int) (d:Nat):Dm 3 1 (blockB e d (inStmtS e d)):=block_le e d ((inStmt_le e d).weak (by omega) (by omega))
theorem stmt_step {D:Nat} (hB:COk 234 (cBlock D)):COk 213 (cStmt (D+1)):=by
 rintro args K k ⟨d,e,ts,ns,mo,op,X,rfl,rfl,ho,hd,hf,hk⟩
 refine frameP (G:=gput 234 (cBlock D) g11) (gput_ok hB g11_ok) 19 rfl fun Q hr hp=>?_
 rw [stmtS_eq] at hk
 have hk:=hk.ak
 have hf:=hf.fin
 unfold stmtB at hk
 simp only at hk
 conv=>whnf
 refine⟨by simp<;>omega,?_⟩
 conv=>whnf
 rw [enc_hd]
 conv=>whnf
 refine⟨_,_,_,_,_,_,_,rfl,rfl,⟨fun h=>?_,fun h=>?_⟩⟩
 ·have h:isS [105,102] ts=true:=h
  simp only [h,dropS] at hk
  conv=>whnf
  refine⟨d,_,_,_,_,_,_,rfl,rfl,ho,(hf.sk h).fine,hk.step (ex_le _ _ _) (fun x ts2 ns2 mo2 hl hk=>?_) (fun a er hb=>by ((conv=>whnf);exact hp _ _ rfl hb))⟩
  have hf:=(hf.sk h).st hl
  conv=>whnf
  refine⟨d,_,_,_,_,_,_,rfl,rfl,ho,by omega,hf.fine,hk.step (blk_le _ _ _) (fun a ts3 ns3 mo3 hl hk=>?_) (fun a er hb=>by ((conv=>whnf);exact hp _ _ rfl hb))⟩
  have hf:=hf.st hl
  conv=>whnf
  refine⟨_,_,_,_,_,_,_,rfl,rfl,⟨fun h=>?_,fun h=>?_⟩⟩
  ·have h:isS [101,108,115,101] ts3=true:=h
   simp only [h] at hk
   conv=>whnf
   refine⟨d,_,_,_,_,_,_,rfl,rfl,ho,by omega,(hf.sk h).fine,hk.step (blk_le _ _ _) (fun b ts4 ns4 mo4 hl hk=>?_) (fun a er hb=>by ((conv=>whnf);exact hp _ _ rfl hb))⟩
   have hf:=(hf.sk h).st hl
   conv=>whnf
   refine⟨[x,a,b],_,_,_,_,_,_,_,_,_,_,_,rfl,rfl,PutK.slr hf.sz rfl rfl rfl (allLt_ok ⟨⟨⟨trivial,rfl⟩,rfl⟩,rfl⟩) ?_⟩
   conv=>whnf
   exact hr _ _ _ _ _ _ rfl rfl hk
  ·have h:isS [101,108,115,101] ts3=false:=h
   simp only [h] at hk
   conv=>whnf
   refine⟨[],_,_,_,_,_,_,_,_,_,_,_,rfl,rfl,PutK.nils hf.sz ?_⟩
   have hf:=hf.pt (n:=⟨6,0,Ru.hd e ts,[],[]⟩)
   conv=>whnf
   refine⟨[x,a,ns3.length],_,_,_,_,_,_,_,_,_,_,_,rfl,rfl,PutK.slr hf.sz rfl rfl rfl (allLt_ok ⟨⟨⟨trivial,rfl⟩,rfl⟩,rfl⟩) ?_⟩
   conv=>whnf
   exact hr _ _ _ _ _ _ rfl rfl hk
 have h:isS [105,102] ts=false:=h
 simp only [h] at hk
 conv=>whnf
 refine⟨_,_,_,_,_,_,_,rfl,rfl,⟨fun h=>?_,fun h=>?_⟩⟩
 ·have h:isS [119,104,105,108,101] ts=true:=h
  simp only [h,dropS] at hk
  conv=>whnf
  refine⟨d,_,_,_,_,_,_,rfl,rfl,ho,(hf.sk h).fine,hk.step (ex_le _ _ _) (fun x ts2 ns2 mo2 hl hk=>?_) (fun a er hb=>by ((conv=>whnf);exact hp _ _ rfl hb))⟩
  have hf:=(hf.sk h).st hl
  conv=>whnf
  refine⟨d,_,_,_,_,_,_,rfl,rfl,ho,by omega,hf.fine,hk.step (blk_le _ _ _) (fun a ts3 ns3 mo3 hl hk=>?_) (fun a er hb=>by ((conv=>whnf);exact hp _ _ rfl hb))⟩
  have hf:=hf.st hl
  conv=>whnf
  refine⟨[x,a],_,_,_,_,_,_,_,_,_,_,_,rfl,rfl,PutK.slr hf.sz rfl rfl rfl (allLt_ok ⟨⟨trivial,rfl⟩,rfl⟩) ?_⟩
  conv=>whnf
  exact hr _ _ _ _ _ _ rfl rfl hk
 have h:isS [119,104,105,108,101] ts=false:=h
 simp only [h] at hk
 conv=>whnf
 refine⟨_,_,_,_,_,_,_,rfl,rfl,⟨fun h=>?_,fun h=>?_⟩⟩
 ·have h:isS [116,114,121] ts=true:=h
  simp only [h,dropS] at hk
  conv=>whnf
  refine⟨d,_,_,_,_,_,_,rfl,rfl,ho,by omega,(hf.sk h).fine,hk.step (blk_le _ _ _) (fun a ts2 ns2 mo2 hl hk=>?_) (fun a er hb=>by ((conv=>whnf);exact hp _ _ rfl hb))⟩
  have hf:=(hf.sk h).st hl
  conv=>whnf
  refine⟨_,_,_,_,_,_,_,rfl,rfl,hk.step (want_le _ _ _) (fun _ ts3 ns3 mo3 hl hk=>?_) (fun a er hb=>by ((conv=>whnf);exact hp _ _ rfl hb))⟩
  have hf:=hf.st hl
  conv=>whnf
  refine⟨_,_,_,_,_,_,rfl,rfl,hk.step (ident_le _ _) (fun t ts4 ns4 mo4 hl hk=>?_) (fun a er hb=>by ((conv=>whnf);exact hp _ _ rfl hb))⟩
  have hf:=hf.st hl
  conv=>whnf
  refine⟨d,_,_,_,_,_,_,rfl,rfl,ho,by omega,hf.fine,hk.step (blk_le _ _ _) (fun b ts5 ns5 mo5 hl hk=>?_) (fun a er hb=>by ((conv=>whnf);exact hp _ _ rfl hb))⟩
  have hf:=hf.st hl
  conv=>whnf
  refine⟨[a,b],_,_,_,_,_,_,_,_,_,_,_,rfl,rfl,PutK.slr hf.sz rfl rfl rfl (allLt_ok ⟨⟨trivial,rfl⟩,rfl⟩) ?_⟩
  conv=>whnf
  exact hr _ _ _ _ _ _ rfl rfl hk
 have h:isS [116,114,121] ts=false:=h
 simp only [h] at hk
 conv=>whnf
 refine⟨d,_,_,_,_,_,_,rfl,rfl,ho,hf.fine,hk.step (plain_le _ _ _) (fun x ts2 ns2 mo2 hl hk=>?_) (fun a er hb=>by ((conv=>whnf);exact hp _ _ rfl hb))⟩
 have hf:=hf.st hl
 conv=>whnf
 refine⟨_,_,_,_,_,_,_,rfl,rfl,hk.step (want_le _ _ _) (fun _ ts3 ns3 mo3 hl hk=>?_) (fun a er hb=>by ((conv=>whnf);exact hp _ _ rfl hb))⟩
 conv=>whnf
 exact hr _ _ _ _ _ _ rfl rfl hk
theorem stmt_ok (D:Nat):COk 213 (cStmt D):=by
 induction D with
 | zero =>
  rintro args K k ⟨d,e,ts,ns,mo,op,X,-,-,-,h,-⟩
  omega
 | succ D ih=>exact stmt_step (block_ok ih)
def cTyped:AC:=fun args K k=>∃ d:Nat,∃ e ts ns mo op kd at_ tx X,args=[pp,.agg [.p (.int .i64 kd),.p (.int .i64 0),.p (.int .i64 at_),.p (.str tx),.p .nils]]∧K=encP e ts ns op mo++X∧Fine d ts ns ∧
 After e (typedS e kd at_ tx ⟨ts,ns,mo⟩) intV op X k
theorem typed_ok:COk 161 cTyped:=by
 rintro args K k ⟨d,e,ts,ns,mo,op,kd,at_,tx,X,rfl,rfl,hf,hk⟩
 refine frameP g7_ok 19 rfl fun Q hr hp=>?_
 have hk:=hk.ak
 have hf:=hf.fin
 unfold typedS at hk
 conv=>whnf
 refine⟨_,_,_,_,_,_,rfl,rfl,?_⟩
 conv=>whnf
 refine two_intro (fun h=>?_) (fun h=>?_)
 ·have h:(typesS ts==0)=true:=h
  simp only [h] at hk
  have hb:=hk
  conv=>whnf
  refine⟨_,_,_,_,_,_,_,rfl,rfl,?_⟩
  ((conv=>whnf);exact hp _ _ rfl hb)
 ·have h:(typesS ts==0)=false:=h
  simp only [h] at hk
  obtain⟨t,r,rfl⟩:∃ t r,ts=t::r:=by
   cases ts with
   | nil=>simp [typesS,isS] at h
   | cons t r=>exact⟨t,r,rfl⟩
  conv=>whnf
  refine⟨_,_,_,_,_,_,_,rfl,rfl,?_⟩
  conv=>whnf
  refine⟨[],_,_,_,_,_,_,_,_,_,_,_,rfl,rfl,PutK.nils hf.sz ?_⟩
  conv=>whnf
  exact hr _ _ _ _ _ _ rfl rfl hk
theorem frameW {G:AG} (hG:GOk Tryz.prog G) (n:Nat) {f:FuncId} {args:List AV} {e:Int} {ts:List Tok} {ns:List Nd} {op mo:Int} {X:List ABlk} {k:AO→List ABlk→Prop} (hcl:AV.cls 2 args=true)
  (h:∀ Q:AO→List ABlk→Prop,
   (∀ v K' v' K2 ts' ns' op' mo',Wk1 2 v K' v' K2→v'.cl 2=true→takeN K2 2=encP e ts' ns' op' mo'→k (.ret v') (encP e ts' ns' op' mo'++X)→Q (.ret v) K') →
   (∀ v K',v.cl 0=true→k (.pan v) (deads 2++X)→Q (.pan v) K')→acall1 T0 G n f args (encP e ts ns op mo) Q) :
  ACalls Tryz.prog f args (encP e ts ns op mo++X) k:=by
 refine (ACalls.frame (K0:=encP e ts ns op mo) (k:=fun ao K1=>k ao (K1++X)) hcl (fun r _=>encP_cl e ts ns op mo r)
  (ACalls.post (k:=fun ao K1=>∃ v' K2,Wk1 2 ao.val K1 v' K2∧frameK 2 (fun ao K1=>k ao (K1++X)) (ao.with v') K2) (call_ok hG n f args _ _ (h _ ?_ ?_)) ?_)).mono ?_
 ·intro v K' v' K2 ts' ns' op' mo' hw h1 h3 h4
  have hl:2≤K2.length:=by
   have:=congrArg List.length h3
   match K2,h3 with
   | [],h3=>simp [takeN,encP] at h3
   | [_],h3=>simp [takeN,encP] at h3
   | _::_::_,_=>simp
  refine⟨v',K2,hw,h1,hl,fun r hr=>?_,?_⟩
  ·have:=encP_cl e ts' ns' op' mo' r
   rw [← h3,hp_takeN,if_pos hr] at this;exact this
  ·show k (.ret v') (takeN K2 2++X)
   rw [h3];exact h4
 ·intro v K' h1 h2;exact⟨v,K',Wk1.refl _ _ _,h1,h2⟩
 ·rintro (v|v) K1 ⟨v',K2,h1,h2⟩
  ·exact⟨v',K2,h1,h2⟩
  ·exact⟨v',K2,h1,h2⟩
 ·rintro ao K ⟨K1,rfl,h⟩;exact h
def g12:AG:=gput 213 (cStmt 41) (gput 161 cTyped g11)
theorem g12_ok:GOk Tryz.prog g12:=gput_ok (stmt_ok 41) (gput_ok typed_ok g11_ok)
def kidV (l:List Int):AV:=.p (.sl 1 l.length (kidF l))
def cVars:AC:=fun args K k=>∃ d:Nat,∃ e ts ns mo op kind X,args=[pp,.p (.int .i64 kind)]∧K=encP e ts ns op mo++X∧Fine d ts ns ∧
 After e (varsS e kind ⟨ts,ns,mo⟩) kidV op X k
theorem vars_ok:COk 106 cVars:=by
 rintro args K k ⟨d,e,ts,ns,mo,op,kind,X,rfl,rfl,hf,hk⟩
 refine frameW g12_ok 19 rfl fun Q hr hp=>?_
 have hk:=hk.ak
 have hf:=hf.fin
 unfold varsS at hk
 conv=>whnf
 refine loop_nil (ι:=LC) 3 1 (fun i=>pvs (kidF [] i)) (fun i=>⟨[(0,pp),(1,.p (.int .i64 kind)),(5,.slr 2 0 0 i.l.length)],encP e i.ts i.ns op i.mo++[kidA i.l]⟩)
   (fun i=>i.ts.length≤i.n∧i.n≤900001∧i.l.length+i.ts.length≤900000∧Fin d 0 i.ts i.ns∧AK (varsL e kind i.n i.l ⟨i.ts,i.ns,i.mo⟩)
    (fun a s=>k (.ret (kidV a)) (encP e s.ts s.ns op s.mo++X)) (fun a er=>k (.pan (wrongV a er)) (deads 2++X)))
   (fun i=>i.n) ⟨ts,ns,mo,[],ts.length⟩ (encP e ts ns op mo)
   rfl ⟨.inl (AV.le_refl _),.inl (AV.le_refl _),.inr ⟨rfl,rfl⟩,trivial⟩ (nswK.refl _ _) rfl
   ⟨Nat.le_refl _,?_,?_,hf,hk⟩ ?_
 ·have:=hf.s;show ts.length≤900001;omega
 ·have:=hf.s;show 0+ts.length≤900000;omega
 clear hk hf
 rintro Y hle ⟨ts,ns,mo,l,n⟩ ⟨hn,hn2,hln,hf,hk⟩ ih
 simp only at hn hn2 hln hf hk
 conv=>whnf
 refine⟨_,_,_,_,_,_,_,rfl,rfl,?_⟩
 conv=>whnf
 refine two_intro (fun h=>?_) (fun h=>?_)
 ·have h:isS [118,97,114] ts=true:=h
  cases n with
  | zero=>have:=isS_pos h;simp only at this;omega
  | succ n =>
  obtain⟨t0,ts,rfl⟩:∃ t r,ts=t::r:=by
   cases ts with
   | nil=>simp [isS] at h
   | cons t r=>exact⟨t,r,rfl⟩
  simp only [varsL,h,bindA,dropS] at hk
  conv=>whnf
  refine⟨_,_,_,_,_,_,_,rfl,rfl,?_⟩
  conv=>whnf
  have hf:Fin d 4 ts ns:=⟨hf.1,by have:=hf.2;simp only [List.length_cons] at this;omega⟩
  refine⟨_,_,_,_,_,_,rfl,rfl,hk.step (ident_le _ _) (fun t ts2 ns2 mo2 hl hk=>?_) (fun a er hb=>by ((conv=>whnf);exact hp _ _ rfl hb))⟩
  have hf:=hf.st hl
  have hl1:=hl.2
  conv=>whnf
  refine⟨d,_,_,_,_,_,_,_,_,_,rfl,rfl,hf.fine,hk.step (typed_le _ _ _ _ _) (fun x ts3 ns3 mo3 hl hk=>?_) (fun a er hb=>by ((conv=>whnf);exact hp _ _ rfl hb))⟩
  have hf:=hf.st hl
  have hl2:=hl.2
  conv=>whnf
  refine⟨⟨rfl,rfl,rfl,allLt_ok ⟨trivial,rfl⟩⟩,?_⟩
  conv=>whnf
  refine⟨⟨rfl,rfl,rfl,rfl,?_,?_⟩,?_⟩
  ·show (l.length+1)*8≤140737488355328
   omega
  ·show l.length+1≤9223372036854775807
   omega
  conv=>whnf
  refine⟨_,_,_,_,_,_,_,rfl,rfl,hk.step (want_le _ _ _) (fun _ ts4 ns4 mo4 hl hk=>?_) (fun a er hb=>by ((conv=>whnf);exact hp _ _ rfl hb))⟩
  have hf:=hf.st hl
  have hl3:=hl.2
  conv=>whnf
  simp only [List.length_cons,List.tail_cons] at hl1 hl2 hl3 hn hln
  refine hle _ _ (Le.cutEnv 3 rfl rfl ⟨rfl,fun _ _=>rfl,?_,trivial⟩ ?_ ?_) (ih ⟨ts4,ns4,mo4,l++[x],n⟩ (by simp only;omega) ⟨?_,?_,?_,hf.lo (by omega),hk⟩)
  ·exact kid_cl l x _ 3 rfl
  ·exact⟨AV.le_refl _,AV.le_refl _,AV.le_of_eq (show AV.slr 2 0 0 (l.length+1)=AV.slr 2 0 0 (l++[x]).length by simp),trivial⟩
  ·exact⟨ABlk.le_refl _,ABlk.le_refl _,kidA_snoc l x _ rfl,trivial⟩
  ·simp only;omega
  ·simp only;omega
  ·simp only [List.length_append,List.length_cons,List.length_nil];omega
 ·have h:isS [118,97,114] ts=false:=h
  have hk:k (.ret (kidV l)) (encP e ts ns op mo++X):=by
   cases n with
   | zero=>exact hk
   | succ n=>simp only [varsL,h] at hk;exact hk
  conv=>whnf
  exact hr _ _ _ _ _ _ _ _ (Wk1.freeze (r:=2) rfl (kidF l) (fun _ _=>rfl)) rfl rfl hk
def g13:AG:=gput 106 cVars g12
theorem g13_ok:GOk Tryz.prog g13:=gput_ok vars_ok g12_ok
def cBody:AC:=fun args K k=>∃ d:Nat,∃ e ts ns mo op X,args=[pp,.p (.bool true)]∧K=encP e ts ns op mo++X∧op=40 - (d:Int)∧Fine d ts ns ∧
 After e (bodyS e d ⟨ts,ns,mo⟩) (fun a=>.tup [kidV a.1,intV a.2]) op X k
theorem body_ok:COk 168 cBody:=by
 rintro args K k ⟨d,e,ts,ns,mo,op,X,rfl,rfl,ho,hf,hk⟩
 refine frameP g13_ok 19 rfl fun Q hr hp=>?_
 have hk:=hk.ak
 have hf:=hf.fin
 unfold bodyS at hk
 simp only at hk
 conv=>whnf
 refine⟨by simp<;>omega,?_⟩
 conv=>whnf
 rw [enc_hd]
 conv=>whnf
 cases hw:isS [123] ts with
 | false =>
  have hb:=hk.within_no hw
  refine⟨_,_,_,_,_,_,_,rfl,rfl,?_⟩
  conv=>whnf
  refine two_false hw ?_
  conv=>whnf
  refine⟨_,_,_,_,_,_,_,rfl,rfl,⟨fun a ts' ns' mo' h=>by simp [wantS,hw] at h,fun a er h=>?_⟩⟩
  simp only [wantS,hw,R.bad.injEq] at h
  obtain⟨rfl,rfl⟩:=h
  ((conv=>whnf);exact hp _ _ rfl hb)
 | true =>
  refine⟨_,_,_,_,_,_,_,rfl,rfl,?_⟩
  conv=>whnf
  refine two_true hw ?_
  conv=>whnf
  cases d with
  | zero =>
   have hb:=hk.within_deep hw
   refine two_true (by simp [ho]) ?_
   conv=>whnf
   refine⟨_,_,_,_,_,_,_,rfl,rfl,?_⟩
   ((conv=>whnf);exact hp _ _ rfl hb)
  | succ d =>
  refine two_false (by simp [ho];omega) ?_
  conv=>whnf
  refine⟨_,_,_,_,_,_,_,rfl,rfl,⟨fun a ts' ns' mo' h=>?_,fun a er h=>by simp [wantS,hw] at h⟩⟩
  simp only [wantS,hw,dropS,R.ok.injEq,PS.mk.injEq] at h
  obtain⟨-,rfl,rfl,rfl⟩:=h
  have hd2:d<1000:=by have:=hf.1;omega
  have hk:=hk.within hw (by simp)
  rw [← in_mo ho hd2] at hk
  have hf:=hf.opn hw
  conv=>whnf
  simp only [bindA] at hk
  refine⟨d,_,_,_,_,_,_,_,rfl,rfl,hf.fine,hk.step (vars_le _ _ _) (fun vs ts2 ns2 mo2 hl hk=>?_) (fun a er hb=>by ((conv=>whnf);exact hp _ _ rfl hb))⟩
  have hf:=hf.st hl
  have hl0:=hl.2
  have hd40:d<41:=by have:=hf.d;omega
  simp only at hl0
  conv=>whnf
  refine loop_nil (ι:=LC) 3 1 (fun i=>pvs (kidF [] i)) (fun i=>⟨[(1,.ptr 2 0 1 0 0),(3,.ptr 6 0 1 0 0)],
    encP e i.ts i.ns (IntKind.i64.wrap (op+1)) i.mo++[.box 123 [pp],.box 4 [.p (.bool true)],.box 82 [.p (.int .i64 6),.p (.int .i64 0),.p (.int .i64 (Ru.hd e ts)),.p (.str []),.p .nils],.box 23 [kidV vs],.box 23 [.slr 7 0 0 i.l.length],kidA i.l]⟩)
   (fun i=>i.ts.length<i.n∧i.n≤900001∧i.l.length+i.ts.length≤900000∧Fin d 3 i.ts i.ns∧AK ((stmtsL (stmtS e d) i.n i.l ⟨i.ts,i.ns,i.mo⟩).bind fun l s=>(wantS e [125] s).bind fun _ s=>(putS ⟨6,0,Ru.hd e ts,[],l⟩ s).bind fun b s=>.ok (vs,b) s)
    (fun a s=>k (.ret (.tup [kidV a.1,intV a.2])) (encP e s.ts s.ns op s.mo++X)) (fun a er=>k (.pan (wrongV a er)) (deads 2++X)))
   (fun i=>i.n) ⟨ts2,ns2,mo2,[],ts2.length+1⟩
   (encP e ts2 ns2 (IntKind.i64.wrap (op+1)) mo2++[.box 123 [pp],.box 4 [.p (.bool true)],.box 82 [.p (.int .i64 6),.p (.int .i64 0),.p (.int .i64 (Ru.hd e ts)),.p (.str []),.p .nils],.box 23 [kidV vs],.box 23 [.slr 7 0 0 0]])
   rfl ⟨.inl (AV.le_refl _),.inl (AV.le_refl _),trivial⟩
   ?_ rfl
   ⟨Nat.lt_succ_self _,?_,?_,hf.lo (by omega),hk⟩ ?_
  ·exact⟨.inl (ABlk.le_refl _),.inl (ABlk.le_refl _),.inl (ABlk.le_refl _),.inl (ABlk.le_refl _),.inl (ABlk.le_refl _),.inl (ABlk.le_refl _),.inr ⟨_,_,_,rfl,rfl,.inr ⟨rfl,rfl⟩,trivial⟩,trivial⟩
  ·have:=hf.s;show ts2.length+1≤900001;omega
  ·have:=hf.s;show 0+ts2.length≤900000;omega
  clear hk hf hl0 hl
  rintro Y hle ⟨ts,ns,mo,l,n⟩ ⟨hn,hn2,hln,hf,hk⟩ ih
  simp only at hn hn2 hln hf hk
  cases n with
  | zero=>omega
  | succ n =>
  conv=>whnf
  refine⟨_,_,_,_,_,_,_,rfl,rfl,?_⟩
  conv=>whnf
  refine two_intro (fun h=>?_) (fun h=>?_)
  ·have h:isS [125] ts=false:=nt h
   simp only [stmtsL,h,bindA] at hk
   conv=>whnf
   refine⟨d,_,_,_,_,_,_,rfl,rfl,in_op ho hd2,by omega,hf.fine,hk.step (stmt_le _ _ _) (fun x ts2 ns2 mo2 hl hk=>?_) (fun a er hb=>by ((conv=>whnf);exact hp _ _ rfl hb))⟩
   have hf:=hf.st hl
   conv=>whnf
   refine⟨by conv=>whnf,?_⟩
   conv=>whnf
   refine⟨by conv=>whnf,?_⟩
   conv=>whnf
   refine⟨⟨rfl,rfl,rfl,allLt_ok ⟨trivial,rfl⟩⟩,?_⟩
   conv=>whnf
   refine⟨⟨rfl,rfl,rfl,rfl,?_,?_⟩,?_⟩
   ·show (l.length+1)*8≤140737488355328
    omega
   ·show l.length+1≤9223372036854775807
    omega
   conv=>whnf
   have hl2:=hl.2
   simp only at hl2
   refine hle _ _ (Le.cutEnv 8 rfl rfl ⟨rfl,fun _ _=>rfl,rfl,rfl,rfl,rfl,rfl,?_,trivial⟩ ?_ ?_) (ih ⟨ts2,ns2,mo2,l++[x],n⟩ (by simp only;omega) ⟨?_,?_,?_,hf.lo (by omega),hk⟩)
   ·exact kid_cl l x _ 8 rfl
   ·exact⟨AV.le_refl _,AV.le_refl _,trivial⟩
   ·exact⟨ABlk.le_refl _,ABlk.le_refl _,ABlk.le_refl _,ABlk.le_refl _,ABlk.le_refl _,ABlk.le_refl _,ABlk.le_of_eq (by simp),kidA_snoc l x _ rfl,trivial⟩
   ·simp only;omega
   ·simp only;omega
   ·simp only [List.length_append,List.length_cons,List.length_nil];omega
  ·have h:isS [125] ts=true:=nf h
   simp only [stmtsL,h,bindO] at hk
   conv=>whnf
   refine⟨_,_,_,_,_,_,_,rfl,rfl,hk.step (want_le _ _ _) (fun _ ts ns mo hl hk=>?_) (fun a er hb=>by ((conv=>whnf);exact hp _ _ rfl hb))⟩
   have hf:=hf.st hl
   conv=>whnf
   refine⟨l,_,_,_,_,_,_,_,_,_,_,_,rfl,rfl,PutK.slr hf.sz rfl rfl rfl (fun _ _=>rfl) ?_⟩
   conv=>whnf
   refine⟨by conv=>whnf,?_⟩
   conv=>whnf
   rw [out_op ho hd2]
   exact hr _ _ _ _ _ _ rfl rfl hk
def g14:AG:=gput 168 cBody g13
theorem g14_ok:GOk Tryz.prog g14:=gput_ok body_ok g13_ok
def cProc:AC:=fun args K k=>∃ d:Nat,∃ e ts ns mo op X,args=[pp]∧K=encP e ts ns op mo++X∧op=40 - (d:Int)∧Fine d ts ns ∧
 After e (procS e d ⟨ts,ns,mo⟩) intV op X k
theorem kid_app (l vs:List Int) (b:Int) (f:Nat→List AV) (hf:f 0=[intV b]):∀ i,i<l.length+vs.length+1 →
  catF (l.length+vs.length) (catF l.length (fun i=>pvs (kidF l i)) (fun i=>pvs (kidF vs i))) f i=[intV ((l++vs++[b]).getD i 0)]:=fun i hi=>by
 by_cases h:i<l.length+vs.length
 ·rw [catF_lt h]
  by_cases h2:i<l.length
  ·rw [catF_lt h2]
   have:(l++vs++[b])[i]?=l[i]?:=by rw [List.append_assoc,List.getElem?_append_left h2]
   simp only [kidF,List.getD_eq_getElem?_getD,this,pvs,intV]
  ·rw [catF_ge (by omega)]
   have:(l++vs++[b])[i]?=vs[i - l.length]?:=by
    rw [List.getElem?_append_left (by simp;omega),List.getElem?_append_right (by omega)]
   simp only [kidF,List.getD_eq_getElem?_getD,this,pvs,intV]
 ·obtain rfl:i=l.length+vs.length:=by omega
  rw [catF_ge (Nat.le_refl _),Nat.sub_self,hf]
  have:(l++vs++[b])[l.length+vs.length]?=some b:=by
   rw [List.getElem?_append_right (by simp)];simp
  simp only [List.getD_eq_getElem?_getD,this,Option.getD_some]
def cIsN:AC:=fun args K k=>cIs args K k∨cIs args K (fun ao K1=>∃ ty sz g K2,nswK K1.length K1 K2∧k ao (K2++[.arr ty sz 0 0 g]))
theorem isN_ok:COk 158 cIsN:=by
 rintro args K k (h|h)
 ·exact is_ok _ _ _ h
 ·exact (is_ok _ _ _ h).nil
theorem proc_ok:COk 107 cProc:=by
 rintro args K k ⟨d,e,ts0,ns,mo,op,X,rfl,rfl,ho,hf,hk⟩
 refine frameP (G:=gput 158 cIsN g14) (gput_ok isN_ok g14_ok) 19 rfl fun Q hr hp=>?_
 have hk:=hk.ak
 have hf:=hf.fin
 have hd0:=hf.d
 unfold procS at hk
 simp only at hk
 conv=>whnf
 refine⟨by simp<;>omega,?_⟩
 conv=>whnf
 rw [enc_hd]
 conv=>whnf
 refine⟨_,_,_,_,_,_,_,rfl,rfl,hk.step (want_le _ _ _) (fun _ ts2 ns2 mo2 hl hk=>?_) (fun a er hb=>by ((conv=>whnf);exact hp _ _ rfl hb))⟩
 have hf:=hf.st hl
 conv=>whnf
 refine⟨_,_,_,_,_,_,rfl,rfl,hk.step (ident_le _ _) (fun t ts ns mo hl hk=>?_) (fun a er hb=>by ((conv=>whnf);exact hp _ _ rfl hb))⟩
 have hf:=hf.st hl
 conv=>whnf
 refine .inl ?_
 cases hw:isS [40] ts with
 | false =>
  have hb:=hk.within_no hw
  refine⟨_,_,_,_,_,_,_,rfl,rfl,?_⟩
  conv=>whnf
  refine two_false hw ?_
  conv=>whnf
  refine⟨_,_,_,_,_,_,_,rfl,rfl,⟨fun a ts' ns' mo' h=>by simp [wantS,hw] at h,fun a er h=>?_⟩⟩
  simp only [wantS,hw,R.bad.injEq] at h
  obtain⟨rfl,rfl⟩:=h
  ((conv=>whnf);exact hp _ _ rfl hb)
 | true =>
  refine⟨_,_,_,_,_,_,_,rfl,rfl,?_⟩
  conv=>whnf
  refine two_true hw ?_
  conv=>whnf
  cases d with
  | zero =>
   have hb:=hk.within_deep hw
   refine two_true (by simp [ho]) ?_
   conv=>whnf
   refine⟨_,_,_,_,_,_,_,rfl,rfl,?_⟩
   ((conv=>whnf);exact hp _ _ rfl hb)
  | succ d =>
  refine two_false (by simp [ho];omega) ?_
  conv=>whnf
  refine⟨_,_,_,_,_,_,_,rfl,rfl,⟨fun a ts' ns' mo' h=>?_,fun a er h=>by simp [wantS,hw] at h⟩⟩
  simp only [wantS,hw,dropS,R.ok.injEq,PS.mk.injEq] at h
  obtain⟨-,rfl,rfl,rfl⟩:=h
  have hd2:d<1000:=by have:=hf.1;omega
  have hk:=hk.within hw (by simp)
  rw [← in_mo ho hd2] at hk
  have hf:=hf.opn hw
  conv=>whnf
  refine .inr ⟨_,_,_,_,_,_,_,rfl,rfl,3,1,fun i=>pvs (kidF [] i),encP e ts.tail ns (IntKind.i64.wrap (op+1)) (if IntKind.i64.wrap (op+1)>mo then IntKind.i64.wrap (op+1) else mo)++[.box 123 [pp],.box 82 [.p (.int .i64 3),.p (.int .i64 0),.p (.int .i64 (hd e ts0)),.p (.str t.tx),.p .nils],.box 23 [.slr 5 0 0 0]],?_,?_⟩
  ·exact⟨.inl (ABlk.le_refl _),.inl (ABlk.le_refl _),.inl (ABlk.le_refl _),.inl (ABlk.le_refl _),.inr ⟨_,_,_,rfl,rfl,.inr ⟨rfl,rfl⟩,trivial⟩,trivial⟩
  conv=>whnf
  refine two_intro (fun h2=>?_) (fun h2=>?_)
  ·have h2:isS [41] ts.tail=true:=h2
   simp only [listS,h2,bindO] at hk
   conv=>whnf
   refine⟨_,_,_,_,_,_,_,rfl,rfl,hk.step (want_le _ _ _) (fun _ ts ns mo hl hk=>?_) (fun a er hb=>by ((conv=>whnf);exact hp _ _ rfl hb))⟩
   have hf:=hf.st hl
   conv=>whnf
   have hln0:([]:List Int).length≤900000:=by simp
   refine⟨_,_,_,_,_,_,rfl,rfl,?_⟩
   conv=>whnf
   refine two_intro (fun h3=>?_) (fun h3=>?_)
   ·obtain⟨t2,ts,rfl⟩:∃ t r,ts=t::r:=by
     cases ts with
     | nil=>simp [typesS,isS] at h3
     | cons t r=>exact⟨t,r,rfl⟩
    have h3:decide (typesS (t2::ts)>0)=true:=h3
    simp only [h3,dropS] at hk
    conv=>whnf
    refine⟨_,_,_,_,_,_,_,rfl,rfl,?_⟩
    conv=>whnf
    rw [out_op ho hd2]
    have hf:Fin d 7 ts ns:=⟨hf.1,by have:=hf.2;simp only [List.length_cons] at this;omega⟩
    refine⟨d+1,_,_,_,_,_,_,rfl,rfl,ho,⟨hd0,by have:=hf.2;omega⟩,hk.stepv (p:=fun p s=>Lw _ 3 1 s∧p.1.length≤_) (fun p s h=>⟨body_le _ _ _ _ _ h,body_len _ _ _ _ _ h⟩) (fun p ts ns mo hl hk=>?_) (fun a er hb=>by ((conv=>whnf);exact hp _ _ rfl hb))⟩
    have hpl:=hl.2
    have hl:=hl.1
    have hpb:p.1.length≤900000:=by have:=hf.2;simp only [List.tail_cons] at hpl;omega
    have hf:=hf.st hl
    conv=>whnf
    have hlen:(([]:List Int)).length≤900000:=hln0
    refine⟨?_,?_⟩
    ·conv=>whnf
     refine⟨⟨rfl,fun _ _=>rfl⟩,?_⟩
     conv=>whnf
     refine⟨⟨rfl,rfl,rfl,rfl,?_,?_⟩,?_⟩
     ·show ((([]:List Int)).length+p.1.length)*8≤140737488355328
      omega
     ·show (([]:List Int)).length+p.1.length≤9223372036854775807
      omega
     conv=>whnf
     repeat ((refine And.intro ?_ ?_);(focus ((conv=>whnf);done));conv=>whnf)
     refine⟨⟨rfl,rfl,rfl,allLt_ok ⟨trivial,rfl⟩⟩,?_⟩
     conv=>whnf
     refine⟨⟨rfl,rfl,rfl,rfl,?_,?_⟩,?_⟩
     ·show ((([]:List Int)).length+p.1.length+1)*8≤140737488355328
      omega
     ·show (([]:List Int)).length+p.1.length+1≤9223372036854775807
      omega
     conv=>whnf
     repeat ((refine And.intro ?_ ?_);(focus ((conv=>whnf);done));conv=>whnf)
     refine⟨([]:List Int)++p.1++[p.2],_,_,_,_,_,_,_,_,_,_,_,rfl,rfl,PutK.slr hf.sz rfl rfl ?_ ?_ ?_⟩
     ·show (([]:List Int)++p.1++[p.2]).length=(([]:List Int)).length+p.1.length+1
      simp only [List.length_append,List.length_cons,List.length_nil]
     ·exact kid_app (([]:List Int)) p.1 p.2 _ rfl
     conv=>whnf
     repeat ((refine And.intro ?_ ?_);(focus ((conv=>whnf);done));conv=>whnf)
     exact hr _ _ _ _ _ _ rfl rfl hk
    ·conv=>whnf
     repeat ((refine And.intro ?_ ?_);(focus ((conv=>whnf);done));conv=>whnf)
     refine⟨⟨rfl,fun _ _=>rfl⟩,?_⟩
     conv=>whnf
     refine⟨⟨rfl,rfl,rfl,rfl,?_,?_⟩,?_⟩
     ·show ((([]:List Int)).length+p.1.length)*8≤140737488355328
      omega
     ·show (([]:List Int)).length+p.1.length≤9223372036854775807
      omega
     conv=>whnf
     repeat ((refine And.intro ?_ ?_);(focus ((conv=>whnf);done));conv=>whnf)
     refine⟨⟨rfl,rfl,rfl,allLt_ok ⟨trivial,rfl⟩⟩,?_⟩
     conv=>whnf
     refine⟨⟨rfl,rfl,rfl,rfl,?_,?_⟩,?_⟩
     ·show ((([]:List Int)).length+p.1.length+1)*8≤140737488355328
      omega
     ·show (([]:List Int)).length+p.1.length+1≤9223372036854775807
      omega
     conv=>whnf
     repeat ((refine And.intro ?_ ?_);(focus ((conv=>whnf);done));conv=>whnf)
     refine⟨([]:List Int)++p.1++[p.2],_,_,_,_,_,_,_,_,_,_,_,rfl,rfl,PutK.slr hf.sz rfl rfl ?_ ?_ ?_⟩
     ·show (([]:List Int)++p.1++[p.2]).length=(([]:List Int)).length+p.1.length+1
      simp only [List.length_append,List.length_cons,List.length_nil]
     ·exact kid_app (([]:List Int)) p.1 p.2 _ rfl
     conv=>whnf
     repeat ((refine And.intro ?_ ?_);(focus ((conv=>whnf);done));conv=>whnf)
     exact hr _ _ _ _ _ _ rfl rfl hk
   ·have h3:decide (typesS ts>0)=false:=h3
    simp only [h3] at hk
    conv=>whnf
    rw [out_op ho hd2]
    have hf:Fin d 7 ts ns:=hf.lo (by omega)
    refine⟨d+1,_,_,_,_,_,_,rfl,rfl,ho,⟨hd0,by have:=hf.2;omega⟩,hk.stepv (p:=fun p s=>Lw _ 3 1 s∧p.1.length≤_) (fun p s h=>⟨body_le _ _ _ _ _ h,body_len _ _ _ _ _ h⟩) (fun p ts ns mo hl hk=>?_) (fun a er hb=>by ((conv=>whnf);exact hp _ _ rfl hb))⟩
    have hpl:=hl.2
    have hl:=hl.1
    have hpb:p.1.length≤900000:=by have:=hf.2;simp only [List.tail_cons] at hpl;omega
    have hf:=hf.st hl
    conv=>whnf
    have hlen:(([]:List Int)).length≤900000:=hln0
    refine⟨?_,?_⟩
    ·conv=>whnf
     refine⟨⟨rfl,fun _ _=>rfl⟩,?_⟩
     conv=>whnf
     refine⟨⟨rfl,rfl,rfl,rfl,?_,?_⟩,?_⟩
     ·show ((([]:List Int)).length+p.1.length)*8≤140737488355328
      omega
     ·show (([]:List Int)).length+p.1.length≤9223372036854775807
      omega
     conv=>whnf
     repeat ((refine And.intro ?_ ?_);(focus ((conv=>whnf);done));conv=>whnf)
     refine⟨⟨rfl,rfl,rfl,allLt_ok ⟨trivial,rfl⟩⟩,?_⟩
     conv=>whnf
     refine⟨⟨rfl,rfl,rfl,rfl,?_,?_⟩,?_⟩
     ·show ((([]:List Int)).length+p.1.length+1)*8≤140737488355328
      omega
     ·show (([]:List Int)).length+p.1.length+1≤9223372036854775807
      omega
     conv=>whnf
     repeat ((refine And.intro ?_ ?_);(focus ((conv=>whnf);done));conv=>whnf)
     refine⟨([]:List Int)++p.1++[p.2],_,_,_,_,_,_,_,_,_,_,_,rfl,rfl,PutK.slr hf.sz rfl rfl ?_ ?_ ?_⟩
     ·show (([]:List Int)++p.1++[p.2]).length=(([]:List Int)).length+p.1.length+1
      simp only [List.length_append,List.length_cons,List.length_nil]
     ·exact kid_app (([]:List Int)) p.1 p.2 _ rfl
     conv=>whnf
     repeat ((refine And.intro ?_ ?_);(focus ((conv=>whnf);done));conv=>whnf)
     exact hr _ _ _ _ _ _ rfl rfl hk
    ·conv=>whnf
     repeat ((refine And.intro ?_ ?_);(focus ((conv=>whnf);done));conv=>whnf)
     refine⟨⟨rfl,fun _ _=>rfl⟩,?_⟩
     conv=>whnf
     refine⟨⟨rfl,rfl,rfl,rfl,?_,?_⟩,?_⟩
     ·show ((([]:List Int)).length+p.1.length)*8≤140737488355328
      omega
     ·show (([]:List Int)).length+p.1.length≤9223372036854775807
      omega
     conv=>whnf
     repeat ((refine And.intro ?_ ?_);(focus ((conv=>whnf);done));conv=>whnf)
     refine⟨⟨rfl,rfl,rfl,allLt_ok ⟨trivial,rfl⟩⟩,?_⟩
     conv=>whnf
     refine⟨⟨rfl,rfl,rfl,rfl,?_,?_⟩,?_⟩
     ·show ((([]:List Int)).length+p.1.length+1)*8≤140737488355328
      omega
     ·show (([]:List Int)).length+p.1.length+1≤9223372036854775807
      omega
     conv=>whnf
     repeat ((refine And.intro ?_ ?_);(focus ((conv=>whnf);done));conv=>whnf)
     refine⟨([]:List Int)++p.1++[p.2],_,_,_,_,_,_,_,_,_,_,_,rfl,rfl,PutK.slr hf.sz rfl rfl ?_ ?_ ?_⟩
     ·show (([]:List Int)++p.1++[p.2]).length=(([]:List Int)).length+p.1.length+1
      simp only [List.length_append,List.length_cons,List.length_nil]
     ·exact kid_app (([]:List Int)) p.1 p.2 _ rfl
     conv=>whnf
     repeat ((refine And.intro ?_ ?_);(focus ((conv=>whnf);done));conv=>whnf)
     exact hr _ _ _ _ _ _ rfl rfl hk
  ·have h2:isS [41] ts.tail=false:=h2
   simp only [listS,h2,oneS,paramS,bindA,bindO] at hk
   conv=>whnf
   refine⟨_,_,_,_,_,_,rfl,rfl,hk.step (ident_le _ _) (fun t1 ts2 ns2 mo2 hl hk=>?_) (fun a er hb=>by ((conv=>whnf);exact hp _ _ rfl hb))⟩
   have hf:=hf.st hl
   conv=>whnf
   refine⟨d,_,_,_,_,_,_,_,_,_,rfl,rfl,hf.fine,hk.step (typed_le _ _ _ _ _) (fun x ts3 ns3 mo3 hl hk=>?_) (fun a er hb=>by ((conv=>whnf);exact hp _ _ rfl hb))⟩
   have hf:=hf.st hl
   conv=>whnf
   repeat ((refine And.intro ?_ ?_);(focus ((conv=>whnf);done));conv=>whnf)
   refine⟨⟨rfl,rfl,rfl,allLt_ok ⟨trivial,rfl⟩⟩,?_⟩
   conv=>whnf
   refine⟨⟨rfl,rfl,rfl,rfl,by decide,by decide⟩,?_⟩
   conv=>whnf
   refine loop_cut (ι:=LC) 6 (fun i=>⟨[(0,pp),(1,.fn 166 [] [.ptr 2 0 1 0 0,.ptr 4 0 1 0 0])],
     encP e i.ts i.ns (IntKind.i64.wrap (op+1)) i.mo++[.box 123 [pp],.box 82 [.p (.int .i64 3),.p (.int .i64 0),.p (.int .i64 (hd e ts0)),.p (.str t.tx),.p .nils],.box 23 [.slr 5 0 0 i.l.length],kidA i.l]⟩)
    (fun i=>i.ts.length≤i.n∧i.n≤900000∧i.l.length+i.ts.length≤900000∧Fin d 7 i.ts i.ns∧AK ((commaL (oneS (paramS e)) i.n i.l ⟨i.ts,i.ns,i.mo⟩).bind fun l s=>(wantS e [41] s).bind fun _ s=>(bodyS e (d+1)
       (match decide (typesS s.ts>0) with
        | true=>dropS s
        | false=>s)).bind fun p s_1=>putS ⟨3,typesS s.ts,hd e ts0,t.tx,l++p.1++[p.2]⟩ s_1)
     (fun a s=>k (.ret (intV a)) (encP e s.ts s.ns op s.mo++X)) (fun a er=>k (.pan (wrongV a er)) (deads 2++X)))
    (fun i=>i.n) ⟨ts3,ns3,mo3,[x],ts3.length⟩ rfl rfl ⟨AV.le_refl _,AV.le_refl _,trivial⟩ ⟨rfl,fun _ _=>rfl,rfl,rfl,rfl,?_,trivial⟩ ⟨ABlk.le_refl _,ABlk.le_refl _,ABlk.le_refl _,ABlk.le_refl _,ABlk.le_refl _,?_,trivial⟩
    ⟨Nat.le_refl _,?_,?_,hf.lo (by omega),hk⟩ ?_
   ·exact kid_cl [] x _ 6 rfl
   ·exact kidA_snoc [] x _ rfl
   ·have:=hf.s;show ts3.length≤900000;omega
   ·have:=hf.s;show 1+ts3.length≤900000;omega
   clear hk hf hl
   rintro Y hle ⟨ts,ns,mo,l,n⟩ ⟨hn,hn2,hln,hf,hk⟩ ih
   simp only at hn hn2 hln hf hk
   conv=>whnf
   refine⟨_,_,_,_,_,_,_,rfl,rfl,⟨fun h=>?_,fun h=>?_⟩⟩
   ·cases n with
    | zero=>have:=isS_pos h;simp only at this;omega
    | succ n =>
    have h:isS [44] ts=true:=h
    simp only [commaL,h,oneS,paramS,bindA,bindO,dropS] at hk
    have hf:=hf.sk h
    have hpos:=isS_pos h
    conv=>whnf
    refine⟨_,_,_,_,_,_,rfl,rfl,hk.step (ident_le _ _) (fun t2 ts2 ns2 mo2 hl hk=>?_) (fun a er hb=>by ((conv=>whnf);exact hp _ _ rfl hb))⟩
    have hf:=hf.st hl
    have hl2:=hl.2
    conv=>whnf
    refine⟨d,_,_,_,_,_,_,_,_,_,rfl,rfl,hf.fine,hk.step (typed_le _ _ _ _ _) (fun x ts3 ns3 mo3 hl hk=>?_) (fun a er hb=>by ((conv=>whnf);exact hp _ _ rfl hb))⟩
    have hf:=hf.st hl
    have hl3:=hl.2
    conv=>whnf
    repeat ((refine And.intro ?_ ?_);(focus ((conv=>whnf);done));conv=>whnf)
    refine⟨⟨rfl,rfl,rfl,allLt_ok ⟨trivial,rfl⟩⟩,?_⟩
    conv=>whnf
    refine⟨⟨rfl,rfl,rfl,rfl,?_,?_⟩,?_⟩
    ·show (l.length+1)*8≤140737488355328
     omega
    ·show l.length+1≤9223372036854775807
     omega
    conv=>whnf
    simp only [List.length_tail] at hl2 hl3
    refine hle _ _ (Le.cutEnv 6 rfl rfl ⟨rfl,fun _ _=>rfl,rfl,rfl,rfl,?_,trivial⟩ ?_ ?_) (ih ⟨ts3,ns3,mo3,l++[x],n⟩ (by simp only;omega) ⟨?_,?_,?_,hf.lo (by omega),hk⟩)
    ·exact kid_cl l x _ 6 rfl
    ·exact⟨AV.le_refl _,AV.le_refl _,trivial⟩
    ·exact⟨ABlk.le_refl _,ABlk.le_refl _,ABlk.le_refl _,ABlk.le_refl _,ABlk.le_of_eq (by simp),kidA_snoc l x _ rfl,trivial⟩
    ·simp only;omega
    ·simp only;omega
    ·simp only [List.length_append,List.length_cons,List.length_nil];omega
   ·have h:isS [44] ts=false:=h
    replace hk:AK ((wantS e [41] ⟨ts,ns,mo⟩).bind fun _ s=>(bodyS e (d+1)
       (match decide (typesS s.ts>0) with
        | true=>dropS s
        | false=>s)).bind fun p s_1=>putS ⟨3,typesS s.ts,hd e ts0,t.tx,l++p.1++[p.2]⟩ s_1)
     (fun a s=>k (.ret (intV a)) (encP e s.ts s.ns op s.mo++X)) (fun a er=>k (.pan (wrongV a er)) (deads 2++X)):=by
     cases n with
     | zero=>exact hk
     | succ n=>simp only [commaL,h,bindO] at hk;exact hk
    have hln0:l.length≤900000:=by omega
    conv=>whnf
    refine⟨_,_,_,_,_,_,_,rfl,rfl,hk.step (want_le _ _ _) (fun _ ts ns mo hl hk=>?_) (fun a er hb=>by ((conv=>whnf);exact hp _ _ rfl hb))⟩
    have hf:=hf.st hl
    conv=>whnf
    refine⟨_,_,_,_,_,_,rfl,rfl,?_⟩
    conv=>whnf
    refine two_intro (fun h3=>?_) (fun h3=>?_)
    ·obtain⟨t2,ts,rfl⟩:∃ t r,ts=t::r:=by
      cases ts with
      | nil=>simp [typesS,isS] at h3
      | cons t r=>exact⟨t,r,rfl⟩
     have h3:decide (typesS (t2::ts)>0)=true:=h3
     simp only [h3,dropS] at hk
     conv=>whnf
     refine⟨_,_,_,_,_,_,_,rfl,rfl,?_⟩
     conv=>whnf
     rw [out_op ho hd2]
     have hf:Fin d 7 ts ns:=⟨hf.1,by have:=hf.2;simp only [List.length_cons] at this;omega⟩
     refine⟨d+1,_,_,_,_,_,_,rfl,rfl,ho,⟨hd0,by have:=hf.2;omega⟩,hk.stepv (p:=fun p s=>Lw _ 3 1 s∧p.1.length≤_) (fun p s h=>⟨body_le _ _ _ _ _ h,body_len _ _ _ _ _ h⟩) (fun p ts ns mo hl hk=>?_) (fun a er hb=>by ((conv=>whnf);exact hp _ _ rfl hb))⟩
     have hpl:=hl.2
     have hl:=hl.1
     have hpb:p.1.length≤900000:=by have:=hf.2;simp only [List.tail_cons] at hpl;omega
     have hf:=hf.st hl
     conv=>whnf
     have hlen:(l).length≤900000:=hln0
     refine⟨?_,?_⟩
     ·conv=>whnf
      refine⟨⟨rfl,fun _ _=>rfl⟩,?_⟩
      conv=>whnf
      refine⟨⟨rfl,rfl,rfl,rfl,?_,?_⟩,?_⟩
      ·show ((l).length+p.1.length)*8≤140737488355328
       omega
      ·show (l).length+p.1.length≤9223372036854775807
       omega
      conv=>whnf
      repeat ((refine And.intro ?_ ?_);(focus ((conv=>whnf);done));conv=>whnf)
      refine⟨⟨rfl,rfl,rfl,allLt_ok ⟨trivial,rfl⟩⟩,?_⟩
      conv=>whnf
      refine⟨⟨rfl,rfl,rfl,rfl,?_,?_⟩,?_⟩
      ·show ((l).length+p.1.length+1)*8≤140737488355328
       omega
      ·show (l).length+p.1.length+1≤9223372036854775807
       omega
      conv=>whnf
      repeat ((refine And.intro ?_ ?_);(focus ((conv=>whnf);done));conv=>whnf)
      refine⟨l++p.1++[p.2],_,_,_,_,_,_,_,_,_,_,_,rfl,rfl,PutK.slr hf.sz rfl rfl ?_ ?_ ?_⟩
      ·show (l++p.1++[p.2]).length=(l).length+p.1.length+1
       simp only [List.length_append,List.length_cons,List.length_nil]
      ·exact kid_app (l) p.1 p.2 _ rfl
      conv=>whnf
      repeat ((refine And.intro ?_ ?_);(focus ((conv=>whnf);done));conv=>whnf)
      exact hr _ _ _ _ _ _ rfl rfl hk
     ·conv=>whnf
      repeat ((refine And.intro ?_ ?_);(focus ((conv=>whnf);done));conv=>whnf)
      refine⟨⟨rfl,fun _ _=>rfl⟩,?_⟩
      conv=>whnf
      refine⟨⟨rfl,rfl,rfl,rfl,?_,?_⟩,?_⟩
      ·show ((l).length+p.1.length)*8≤140737488355328
       omega
      ·show (l).length+p.1.length≤9223372036854775807
       omega
      conv=>whnf
      repeat ((refine And.intro ?_ ?_);(focus ((conv=>whnf);done));conv=>whnf)
      refine⟨⟨rfl,rfl,rfl,allLt_ok ⟨trivial,rfl⟩⟩,?_⟩
      conv=>whnf
      refine⟨⟨rfl,rfl,rfl,rfl,?_,?_⟩,?_⟩
      ·show ((l).length+p.1.length+1)*8≤140737488355328
       omega
      ·show (l).length+p.1.length+1≤9223372036854775807
       omega
      conv=>whnf
      repeat ((refine And.intro ?_ ?_);(focus ((conv=>whnf);done));conv=>whnf)
      refine⟨l++p.1++[p.2],_,_,_,_,_,_,_,_,_,_,_,rfl,rfl,PutK.slr hf.sz rfl rfl ?_ ?_ ?_⟩
      ·show (l++p.1++[p.2]).length=(l).length+p.1.length+1
       simp only [List.length_append,List.length_cons,List.length_nil]
      ·exact kid_app (l) p.1 p.2 _ rfl
      conv=>whnf
      repeat ((refine And.intro ?_ ?_);(focus ((conv=>whnf);done));conv=>whnf)
      exact hr _ _ _ _ _ _ rfl rfl hk
    ·have h3:decide (typesS ts>0)=false:=h3
     simp only [h3] at hk
     conv=>whnf
     rw [out_op ho hd2]
     have hf:Fin d 7 ts ns:=hf.lo (by omega)
     refine⟨d+1,_,_,_,_,_,_,rfl,rfl,ho,⟨hd0,by have:=hf.2;omega⟩,hk.stepv (p:=fun p s=>Lw _ 3 1 s∧p.1.length≤_) (fun p s h=>⟨body_le _ _ _ _ _ h,body_len _ _ _ _ _ h⟩) (fun p ts ns mo hl hk=>?_) (fun a er hb=>by ((conv=>whnf);exact hp _ _ rfl hb))⟩
     have hpl:=hl.2
     have hl:=hl.1
     have hpb:p.1.length≤900000:=by have:=hf.2;simp only [List.tail_cons] at hpl;omega
     have hf:=hf.st hl
     conv=>whnf
     have hlen:(l).length≤900000:=hln0
     refine⟨?_,?_⟩
     ·conv=>whnf
      refine⟨⟨rfl,fun _ _=>rfl⟩,?_⟩
      conv=>whnf
      refine⟨⟨rfl,rfl,rfl,rfl,?_,?_⟩,?_⟩
      ·show ((l).length+p.1.length)*8≤140737488355328
       omega
      ·show (l).length+p.1.length≤9223372036854775807
       omega
      conv=>whnf
      repeat ((refine And.intro ?_ ?_);(focus ((conv=>whnf);done));conv=>whnf)
      refine⟨⟨rfl,rfl,rfl,allLt_ok ⟨trivial,rfl⟩⟩,?_⟩
      conv=>whnf
      refine⟨⟨rfl,rfl,rfl,rfl,?_,?_⟩,?_⟩
      ·show ((l).length+p.1.length+1)*8≤140737488355328
       omega
      ·show (l).length+p.1.length+1≤9223372036854775807
       omega
      conv=>whnf
      repeat ((refine And.intro ?_ ?_);(focus ((conv=>whnf);done));conv=>whnf)
      refine⟨l++p.1++[p.2],_,_,_,_,_,_,_,_,_,_,_,rfl,rfl,PutK.slr hf.sz rfl rfl ?_ ?_ ?_⟩
      ·show (l++p.1++[p.2]).length=(l).length+p.1.length+1
       simp only [List.length_append,List.length_cons,List.length_nil]
      ·exact kid_app (l) p.1 p.2 _ rfl
      conv=>whnf
      repeat ((refine And.intro ?_ ?_);(focus ((conv=>whnf);done));conv=>whnf)
      exact hr _ _ _ _ _ _ rfl rfl hk
     ·conv=>whnf
      repeat ((refine And.intro ?_ ?_);(focus ((conv=>whnf);done));conv=>whnf)
      refine⟨⟨rfl,fun _ _=>rfl⟩,?_⟩
      conv=>whnf
      refine⟨⟨rfl,rfl,rfl,rfl,?_,?_⟩,?_⟩
      ·show ((l).length+p.1.length)*8≤140737488355328
       omega
      ·show (l).length+p.1.length≤9223372036854775807
       omega
      conv=>whnf
      repeat ((refine And.intro ?_ ?_);(focus ((conv=>whnf);done));conv=>whnf)
      refine⟨⟨rfl,rfl,rfl,allLt_ok ⟨trivial,rfl⟩⟩,?_⟩
      conv=>whnf
      refine⟨⟨rfl,rfl,rfl,rfl,?_,?_⟩,?_⟩
      ·show ((l).length+p.1.length+1)*8≤140737488355328
       omega
      ·show (l).length+p.1.length+1≤9223372036854775807
       omega
      conv=>whnf
      repeat ((refine And.intro ?_ ?_);(focus ((conv=>whnf);done));conv=>whnf)
      refine⟨l++p.1++[p.2],_,_,_,_,_,_,_,_,_,_,_,rfl,rfl,PutK.slr hf.sz rfl rfl ?_ ?_ ?_⟩
      ·show (l++p.1++[p.2]).length=(l).length+p.1.length+1
       simp only [List.length_append,List.length_cons,List.length_nil]
      ·exact kid_app (l) p.1 p.2 _ rfl
      conv=>whnf
      repeat ((refine And.intro ?_ ?_);(focus ((conv=>whnf);done));conv=>whnf)
      exact hr _ _ _ _ _ _ rfl rfl hk
def g15:AG:=gput 107 cProc g14
theorem g15_ok:GOk Tryz.prog g15:=gput_ok proc_ok g14_ok
def cVarsM:AC:=fun args K k=>∃ d:Nat,∃ e ts ns mo op kind,args=[pp,.p (.int .i64 kind)]∧K=encP e ts ns op mo∧Fine d ts ns ∧
 AK (varsS e kind ⟨ts,ns,mo⟩) (fun l s=>k (.ret (.slr 2 0 0 l.length)) (encP e s.ts s.ns op s.mo++[kidA l])) (fun a er=>∀ K',k (.pan (wrongV a er)) K')
theorem varsM_ok:COk 106 cVarsM:=by
 rintro args K k ⟨d,e,ts,ns,mo,op,kind,rfl,rfl,hf,hk⟩
 refine call_ok g12_ok 19 _ _ _ _ ?_
 have hf:=hf.fin
 unfold varsS at hk
 conv=>whnf
 refine loop_nil (ι:=LC) 3 1 (fun i=>pvs (kidF [] i)) (fun i=>⟨[(0,pp),(1,.p (.int .i64 kind)),(5,.slr 2 0 0 i.l.length)],encP e i.ts i.ns op i.mo++[kidA i.l]⟩)
   (fun i=>i.ts.length≤i.n∧i.n≤900001∧i.l.length+i.ts.length≤900000∧Fin d 0 i.ts i.ns∧AK (varsL e kind i.n i.l ⟨i.ts,i.ns,i.mo⟩)
    (fun l s=>k (.ret (.slr 2 0 0 l.length)) (encP e s.ts s.ns op s.mo++[kidA l])) (fun a er=>∀ K',k (.pan (wrongV a er)) K'))
   (fun i=>i.n) ⟨ts,ns,mo,[],ts.length⟩ (encP e ts ns op mo)
   rfl ⟨.inl (AV.le_refl _),.inl (AV.le_refl _),.inr ⟨rfl,rfl⟩,trivial⟩ (nswK.refl _ _) rfl
   ⟨Nat.le_refl _,?_,?_,hf,hk⟩ ?_
 ·have:=hf.s;show ts.length≤900001;omega
 ·have:=hf.s;show 0+ts.length≤900000;omega
 clear hk hf
 rintro Y hle ⟨ts,ns,mo,l,n⟩ ⟨hn,hn2,hln,hf,hk⟩ ih
 simp only at hn hn2 hln hf hk
 conv=>whnf
 refine⟨_,_,_,_,_,_,_,rfl,rfl,?_⟩
 conv=>whnf
 refine two_intro (fun h=>?_) (fun h=>?_)
 ·have h:isS [118,97,114] ts=true:=h
  cases n with
  | zero=>have:=isS_pos h;simp only at this;omega
  | succ n =>
  obtain⟨t0,ts,rfl⟩:∃ t r,ts=t::r:=by
   cases ts with
   | nil=>simp [isS] at h
   | cons t r=>exact⟨t,r,rfl⟩
  simp only [varsL,h,bindA,dropS] at hk
  conv=>whnf
  refine⟨_,_,_,_,_,_,_,rfl,rfl,?_⟩
  conv=>whnf
  have hf:Fin d 4 ts ns:=⟨hf.1,by have:=hf.2;simp only [List.length_cons] at this;omega⟩
  refine⟨_,_,_,_,_,_,rfl,rfl,hk.step (ident_le _ _) (fun t ts2 ns2 mo2 hl hk=>?_) (fun a er hb=>by (conv=>whnf);exact hb _)⟩
  have hf:=hf.st hl
  have hl1:=hl.2
  conv=>whnf
  refine⟨d,_,_,_,_,_,_,_,_,_,rfl,rfl,hf.fine,hk.step (typed_le _ _ _ _ _) (fun x ts3 ns3 mo3 hl hk=>?_) (fun a er hb=>by (conv=>whnf);exact hb _)⟩
  have hf:=hf.st hl
  have hl2:=hl.2
  conv=>whnf
  refine⟨⟨rfl,rfl,rfl,allLt_ok ⟨trivial,rfl⟩⟩,?_⟩
  conv=>whnf
  refine⟨⟨rfl,rfl,rfl,rfl,?_,?_⟩,?_⟩
  ·show (l.length+1)*8≤140737488355328
   omega
  ·show l.length+1≤9223372036854775807
   omega
  conv=>whnf
  refine⟨_,_,_,_,_,_,_,rfl,rfl,hk.step (want_le _ _ _) (fun _ ts4 ns4 mo4 hl hk=>?_) (fun a er hb=>by (conv=>whnf);exact hb _)⟩
  have hf:=hf.st hl
  have hl3:=hl.2
  conv=>whnf
  simp only [List.length_cons,List.tail_cons] at hl1 hl2 hl3 hn hln
  refine hle _ _ (Le.cutEnv 3 rfl rfl ⟨rfl,fun _ _=>rfl,?_,trivial⟩ ?_ ?_) (ih ⟨ts4,ns4,mo4,l++[x],n⟩ (by simp only;omega) ⟨?_,?_,?_,hf.lo (by omega),hk⟩)
  ·exact kid_cl l x _ 3 rfl
  ·exact⟨AV.le_refl _,AV.le_refl _,AV.le_of_eq (show AV.slr 2 0 0 (l.length+1)=AV.slr 2 0 0 (l++[x]).length by simp),trivial⟩
  ·exact⟨ABlk.le_refl _,ABlk.le_refl _,kidA_snoc l x _ rfl,trivial⟩
  ·simp only;omega
  ·simp only;omega
  ·simp only [List.length_append,List.length_cons,List.length_nil];omega
 ·have h:isS [118,97,114] ts=false:=h
  have hk:k (.ret (.slr 2 0 0 l.length)) (encP e ts ns op mo++[kidA l]):=by
   cases n with
   | zero=>exact hk
   | succ n=>simp only [varsL,h] at hk;exact hk
  conv=>whnf
  exact hk
def g16:AG:=gput 106 cVarsM g15
theorem g16_ok:GOk Tryz.prog g16:=gput_ok varsM_ok g15_ok
theorem AK.vstep {α β:Type} {r:R α} {f:α→PS→R β} {ok:β→PS→Prop} {bad:Int→Int→Prop} (h:AK (r.bind f) ok bad) {ok':α→PS→Prop} {bad':Int→Int→Prop} {p:α→PS→Prop} (hp:∀ a s,r=.ok a s→p a s)
  (h1:∀ a ts ns mo,p a ⟨ts,ns,mo⟩→AK (f a ⟨ts,ns,mo⟩) ok bad→ok' a ⟨ts,ns,mo⟩) (h2:∀ a er,bad a er→bad' a er):AK r ok' bad':=by
 cases r with
 | ok a s=>exact h1 _ _ _ _ (hp _ _ rfl) h
 | bad a er=>exact h2 _ _ h
def cProgram:AC:=fun args K k=>∃ e ts ns mo X,args=[pp]∧K=encP e ts ns 0 mo++X∧Fine 40 ts ns ∧
 After e (programS e ⟨ts,ns,mo⟩) intV 0 X k
theorem varsS_len (e kind:Int) (s:PS):∀ l s',varsS e kind s=.ok l s'→Lw s 0 0 s'∧l.length+s'.ts.length≤s.ts.length:=fun l s' h =>
 ⟨vars_le e kind s l s' h,by have:=varsL_len e kind _ _ _ _ _ h;simpa using this⟩
theorem program_ok:COk 67 cProgram:=by
 rintro args K k ⟨e,ts,ns,mo,X,rfl,rfl,hf,hk⟩
 refine frameP g16_ok 19 rfl fun Q hr hp=>?_
 have hk:=hk.ak
 have hf:=hf.fin
 unfold programS at hk
 conv=>whnf
 refine⟨40,_,_,_,_,_,_,rfl,rfl,hf.fine,hk.vstep (varsS_len _ _ _) (fun vs ts2 ns2 mo2 hl hk=>?_) (fun a er hb K'=>by (conv=>whnf);show fK K' _;rw [fK_eq];exact hp _ _ rfl hb)⟩
 have hln:=hl.2
 have hf0:=hf.s
 have hf:=hf.st hl.1
 simp only at hln
 conv=>whnf
 refine loop_by (ι:=LC) (fun i=>⟨[(0,pp),(3,.slr 2 0 0 i.l.length)],encP e i.ts i.ns 0 i.mo++[kidA i.l]⟩)
   (fun i=>i.ts.length≤i.n∧i.n≤900001∧i.l.length+i.ts.length≤900000∧Fin 40 0 i.ts i.ns∧AK ((procsL e 40 i.n i.l ⟨i.ts,i.ns,i.mo⟩).bind fun l s=>putS ⟨1,0,0,[],l⟩ s)
    (fun a s=>k (.ret (intV a)) (encP e s.ts s.ns 0 s.mo++X)) (fun a er=>k (.pan (wrongV a er)) (deads 2++X)))
   (fun i=>i.n) ⟨ts2,ns2,mo2,vs,ts2.length⟩ ⟨AV.le_refl _,AV.le_refl _,trivial⟩ (lesK.refl _)
   ⟨Nat.le_refl _,?_,?_,hf,hk⟩ ?_
 ·have:=hf.s;show ts2.length≤900001;omega
 ·show vs.length+ts2.length≤900000;omega
 clear hk hf hln hl hf0
 rintro Y hle ⟨ts,ns,mo,l,n⟩ ⟨hn,hn2,hln,hf,hk⟩ ih
 simp only at hn hn2 hln hf hk
 conv=>whnf
 refine⟨by simp<;>omega,?_⟩
 conv=>whnf
 rw [enc_hd]
 conv=>whnf
 refine two_intro (fun h=>?_) (fun h=>?_)
 ·have h:(hdK ts != 5)=true:=h
  cases n with
  | zero =>
   cases ts with
   | nil=>simp [hdK] at h
   | cons t r=>simp at hn
  | succ n =>
  obtain⟨t,r,rfl⟩:∃ t r,ts=t::r:=by
   cases ts with
   | nil=>simp [hdK] at h
   | cons t r=>exact⟨t,r,rfl⟩
  simp only [procsL,bindA] at hk
  conv=>whnf
  refine⟨40,_,_,_,_,_,_,rfl,rfl,rfl,hf.fine,hk.step (proc_le _ _ _) (fun x ts3 ns3 mo3 hl hk=>?_) (fun a er hb=>by ((conv=>whnf);exact hp _ _ rfl hb))⟩
  have hf:=hf.st hl
  have hl2:=hl.2
  simp only [List.length_cons] at hl2 hn hln
  conv=>whnf
  refine⟨⟨rfl,rfl,rfl,allLt_ok ⟨trivial,rfl⟩⟩,?_⟩
  conv=>whnf
  refine⟨⟨rfl,rfl,rfl,rfl,?_,?_⟩,?_⟩
  ·show (l.length+1)*8≤140737488355328
   omega
  ·show l.length+1≤9223372036854775807
   omega
  conv=>whnf
  refine hle _ _ (Le.cutEnv 3 rfl rfl ⟨rfl,fun _ _=>rfl,?_,trivial⟩ ?_ ?_) (ih ⟨ts3,ns3,mo3,l++[x],n⟩ (by simp only;omega) ⟨?_,?_,?_,hf.lo (by omega),hk⟩)
  ·exact kid_cl l x _ 3 rfl
  ·exact⟨AV.le_refl _,AV.le_of_eq (show AV.slr 2 0 0 (l.length+1)=AV.slr 2 0 0 (l++[x]).length by simp),trivial⟩
  ·exact⟨ABlk.le_refl _,ABlk.le_refl _,kidA_snoc l x _ rfl,trivial⟩
  ·simp only;omega
  ·simp only;omega
  ·simp only [List.length_append,List.length_cons,List.length_nil];omega
 ·have h:(hdK ts != 5)=false:=h
  obtain rfl:ts=[]:=by
   cases ts with
   | nil=>rfl
   | cons t r =>
    obtain⟨tk,_,_,_⟩:=t
    cases tk<;>simp [hdK,TK.code] at h
  replace hk:AK (putS ⟨1,0,0,[],l⟩ ⟨[],ns,mo⟩) (fun a s=>k (.ret (intV a)) (encP e s.ts s.ns 0 s.mo++X)) (fun a er=>k (.pan (wrongV a er)) (deads 2++X)):=by
   cases n<;>exact hk
  conv=>whnf
  refine⟨l,_,_,_,_,_,_,_,_,_,_,_,rfl,rfl,PutK.slr hf.sz rfl rfl rfl (fun _ _=>rfl) ?_⟩
  conv=>whnf
  exact hr _ _ _ _ _ _ rfl rfl hk
end Go.Proofs.YtcmepkfefoidcaaGreatDoor
