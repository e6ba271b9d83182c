/-
  On the way to what follows: part 3 of 0.
-/
import Derived.KernelRfl
import Derived.Test.YtcmepkfefoidcaaGreatDoorProg
import Derived.Test.YtcmepkfefoidcaaGreatDoorPk2
set_option linter.unusedVariables false
set_option linter.unusedSimpArgs false
namespace Go.AE
inductive Sch (ops:Array Oper):(Nat→Prop)→List Nat→Prop where
 | nil (E:Nat→Prop) (h:∀ i,i<ops.size→E i):Sch ops E []
 | cons (E:Nat→Prop) (i:Nat) (o:Oper) (rest:List Nat) (hi:ops[i]?=some o) (hn:¬ E i) (he:∀ e∈edges o,E e) (h:Sch ops (fun j=>E j∨j=i) rest):Sch ops E (i::rest)
theorem countP_lt (p:Nat→Bool) (i:Nat) (l:List Nat) (hi:i∈l) (hp:p i=true):l.countP (fun x=>p x&&!(x==i))<l.countP p:=by
 have hle:∀ l:List Nat,l.countP (fun x=>p x&&!(x==i))≤l.countP p:=fun l =>
  List.countP_mono_left fun x _ hx=>by simp only [Bool.and_eq_true] at hx;exact hx.1
 induction l with
 | nil=>simp at hi
 | cons a l ih =>
  simp only [List.countP_cons]
  by_cases e:a=i
  ·subst e
   have:=hle l
   simp [hp];omega
  ·have hi':i∈l:=by
    cases List.mem_cons.1 hi with
    | inl h=>exact absurd h.symm e
    | inr h=>exact h
   have:=ih hi'
   have e2:(a==i)=false:=by simpa using e
   simp only [e2,Bool.not_false,Bool.and_true]
   omega
theorem go_sch (ops:Array Oper) (hlt:∀ (i:Nat) (o:Oper),ops[i]?=some o→∀ e∈edges o,e<i):∀ (fuel t:Nat) (listed:Array Bool) (acc:List Nat),listed.size=ops.size →
  ((List.range ops.size).countP fun i=>!listed.getD i true)≤fuel →
  ∃ s,Region.linearise.go .any ops fuel t listed acc=acc.reverse++s∧Sch ops (fun i=>listed.getD i false=true) s:=by
 intro fuel
 induction fuel with
 | zero =>
  intro t listed acc hs hc
  refine⟨[],by simp [Region.linearise.go],.nil _ fun i hi=>?_⟩
  have h0:(List.range ops.size).countP (fun i=>!listed.getD i true)=0:=by omega
  rw [List.countP_eq_zero] at h0
  have:=h0 i (List.mem_range.2 hi)
  have hil:i<listed.size:=by rw [hs];exact hi
  simp [hil] at this ⊢
  exact this
 | succ fuel ih =>
  intro t listed acc hs hc
  simp only [Region.linearise.go]
  generalize hrs:(List.range ops.size).filter (fun i=>!listed.getD i true&&((ops[i]?).map (fun o=>o.after.all fun e=>!Region.binds .any e || listed.getD e.on false)).getD false)=rs
  cases hr:rs[t % rs.length]? with
  | some i =>
   have hm:i∈rs:=List.mem_of_getElem? hr
   rw [← hrs,List.mem_filter,List.mem_range] at hm
   obtain⟨hi,hcnd⟩:=hm
   simp only [Bool.and_eq_true,Bool.not_eq_true'] at hcnd
   obtain⟨hl,he⟩:=hcnd
   have hil:i<listed.size:=by rw [hs];exact hi
   obtain⟨o,ho⟩:∃ o,ops[i]?=some o:=⟨ops[i],by simp [hi]⟩
   simp only [ho,Option.map_some,Option.getD_some] at he
   have hset:∀ j,(listed.setIfInBounds i true).getD j true=(listed.getD j true || j==i):=by
    intro j
    simp only [Array.getD_eq_getD_getElem?,Array.getElem?_setIfInBounds]
    by_cases e:i=j
    ·subst e;simp [hil]
    ·have:(j==i)=false:=by simpa using fun h:j=i=>e h.symm
     simp [e,this]
   have hsetf:∀ j,(listed.setIfInBounds i true).getD j false=true↔(listed.getD j false=true∨j=i):=by
    intro j
    simp only [Array.getD_eq_getD_getElem?,Array.getElem?_setIfInBounds]
    by_cases e:i=j
    ·subst e;simp [hil]
    ·have:¬ j=i:=fun h=>e h.symm
     simp [e,this]
   obtain⟨s,h1,h2⟩:=ih (t / rs.length) (listed.setIfInBounds i true) (i::acc) (by simp [hs]) (by
    have:=countP_lt (fun j=>!listed.getD j true) i (List.range ops.size) (List.mem_range.2 hi) (by simp [hl])
    have e:(fun j=>!(listed.setIfInBounds i true).getD j true)=(fun x=>(!listed.getD x true)&&!(x==i)):=by
     funext j;rw [hset];simp
    rw [e];omega)
   refine⟨i::s,by show Region.linearise.go .any ops fuel (t / rs.length) (listed.setIfInBounds i true) (i::acc)=_;rw [h1];simp,.cons _ i o s ho ?_ ?_ ?_⟩
   ·simp [hil] at hl ⊢;exact hl
   ·intro e hee
    simp only [edges,List.mem_map,List.mem_filter] at hee
    obtain⟨ed,⟨hed,hb⟩,rfl⟩:=hee
    rw [Array.all_eq_true'] at he
    have:=he ed (by simpa using hed)
    simpa [hb] using this
   ·have:(fun j=>(listed.setIfInBounds i true).getD j false=true)=(fun j=>listed.getD j false=true∨j=i):=by
     funext j;exact propext (hsetf j)
    rw [this] at h2
    exact h2
  | none =>
   refine⟨[],by simp,.nil _ ?_⟩
   have hnil:rs=[]:=by
    cases rs with
    | nil=>rfl
    | cons a r=>simp [Nat.mod_lt] at hr
   rw [← hrs,List.filter_eq_nil_iff] at hnil
   intro i
   induction i using Nat.strongRecOn with
   | _ i ih2 =>
    intro hi
    have h:=hnil i (List.mem_range.2 hi)
    have hil:i<listed.size:=by rw [hs];exact hi
    obtain⟨o,ho⟩:∃ o,ops[i]?=some o:=⟨ops[i],by simp [hi]⟩
    cases hli:listed[i] with
    | true=>simp [hil,hli]
    | false =>
     exfalso
     apply h
     simp only [ho,Option.map_some,Option.getD_some,Bool.and_eq_true]
     refine⟨by simp [hil,hli],?_⟩
     rw [Array.all_eq_true']
     intro e he
     by_cases hb:Region.binds .any e
     ·have hel:e.on<i:=hlt i o ho e.on (by simp only [edges,List.mem_map,List.mem_filter];exact⟨e,⟨by simpa using he,hb⟩,rfl⟩)
      have:=ih2 e.on hel (by omega)
      simp [this]
     ·simp [hb]
theorem schedule_sch (ops:Array Oper) (hlt:∀ (i:Nat) (o:Oper),ops[i]?=some o→∀ e∈edges o,e<i) (t:Nat):Sch ops (fun _=>False) (Region.schedule true ops t):=by
 obtain⟨s,h1,h2⟩:=go_sch ops hlt ops.size t (Array.replicate ops.size false) [] (by simp) (by
  refine Nat.le_trans (List.countP_le_length) (by simp))
 have e:Region.schedule true ops t=s:=by
  unfold Region.schedule
  simp only [Bool.true_or,if_true,Region.linearise]
  rw [h1];simp
 rw [e]
 have:(fun i=>(Array.replicate ops.size false).getD i false=true)=(fun _=>False):=by
  funext i
  simp [Array.getD_eq_getD_getElem?,Array.getElem?_replicate]
  split<;>simp
 rw [this] at h2
 exact h2
theorem mem_iff (l:List Nat) (n:Nat):mem l n=true↔n∈l:=by
 induction l with
 | nil=>simp [mem]
 | cons a l ih =>
  simp only [mem]
  cases h:Nat.beq a n with
  | true=>have:=Nat.eq_of_beq_eq_true h;subst this;simp
  | false =>
   have hne:¬ n=a:=fun e=>by subst e;simp at h
   simp [ih,hne]
theorem subset_iff (l k:List Nat):subset l k=true↔∀ i∈l,i∈k:=by
 induction l with
 | nil=>simp [subset]
 | cons a l ih=>simp [subset,ih,mem_iff]
theorem unN_mem {l m:List Nat} {j:Nat} (h:j∈unN l m):j∈l∨j∈m:=by
 induction l with
 | nil=>exact .inr h
 | cons a l ih =>
  simp only [unN] at h
  split at h
  ·rcases ih h with h|h
   ·exact .inl (List.mem_cons_of_mem _ h)
   ·exact .inr h
  ·rcases List.mem_cons.1 h with h|h
   ·exact .inl (h▸List.mem_cons_self ..)
   ·rcases ih h with h|h
    ·exact .inl (List.mem_cons_of_mem _ h)
    ·exact .inr h
theorem addAll_mem' (acc:List (List Nat)) (l out:List Nat) (j:Nat) (h:j∈addAll acc l out):j∈out∨∃ e∈l,j=e∨j∈ancOf acc e:=by
 induction l generalizing out with
 | nil=>exact .inl h
 | cons e l ih =>
  simp only [addAll] at h
  split at h
  ·rcases ih _ h with h|⟨e',h1,h2⟩
   ·exact .inl h
   ·exact .inr ⟨e',List.mem_cons_of_mem _ h1,h2⟩
  ·rcases ih _ h with h|⟨e',h1,h2⟩
   ·rcases unN_mem h with h|h
    ·exact .inr ⟨e,List.mem_cons_self ..,.inr h⟩
    ·rcases List.mem_cons.1 h with h|h
     ·exact .inr ⟨e,List.mem_cons_self ..,.inl h⟩
     ·exact .inl h
   ·exact .inr ⟨e',List.mem_cons_of_mem _ h1,h2⟩
theorem addAll_mem (acc:List (List Nat)) (l:List Nat) (j:Nat) (h:j∈addAll acc l []):∃ e∈l,j=e∨j∈ancOf acc e:=by
 rcases addAll_mem' acc l [] j h with h|h
 ·simp at h
 ·exact h
theorem ancs_get (l:List Oper):∀ (acc:List (List Nat)),(∀ i,i<acc.length→(ancs l acc)[i]?=acc[i]?) ∧
  ∀ i o,l[i]?=some o→∃ p,(ancs l acc)[acc.length+i]?=some (addAll p (edges o) [])∧∀ e,e<acc.length+i→p[e]?=(ancs l acc)[e]?:=by
 induction l with
 | nil=>intro acc;exact⟨fun i hi=>rfl,fun i o h=>by simp at h⟩
 | cons a l ih =>
  intro acc
  simp only [ancs,snoc_eq]
  obtain⟨h1,h2⟩:=ih (acc++[addAll acc (edges a) []])
  refine⟨fun i hi=>?_,fun i o h=>?_⟩
  ·rw [h1 i (by simp;omega),List.getElem?_append_left hi]
  ·cases i with
   | zero =>
    simp at h
    subst h
    refine⟨acc,?_,fun e he=>?_⟩
    ·rw [h1 _ (by simp)];simp
    ·rw [h1 e (by simp;omega),List.getElem?_append_left (by omega)]
   | succ i =>
    obtain⟨p,h3,h4⟩:=h2 i o (by simpa using h)
    refine⟨p,?_,fun e he=>h4 e (by simp;omega)⟩
    rw [← h3];congr 1;simp;omega
structure DrawOk (L:List Oper) (ac:List (List Nat)):Prop where
 edge:∀ (i:Nat) (o:Oper),L[i]?=some o→∀ e∈edges o,e<i
 slot:∀ (i:Nat) (o:Oper) (j:Nat) (o':Oper) (d:Nat),L[i]?=some o→L[j]?=some o'→o.dst=some d→i≠j→o'.dst≠some d∧(d∈slotsG L o'→i∈ancOf ac j∨j∈ancOf ac i)
 ancE:∀ (i:Nat) (o:Oper) (j:Nat),L[i]?=some o→j∈ancOf ac i→∃ e∈edges o,j=e∨j∈ancOf ac e
theorem avail_iff {L:List Oper} {ac:List (List Nat)} {done:List Nat} {b:Bool} {i:Nat}:avail L ac done b i=true↔i ∉ done∧(∀ j∈ancOf ac i,j∈done)∧(Nat.beq (kindAt L i) 2)=b:=by
 unfold avail
 simp only [Bool.and_eq_true,Bool.not_eq_true',beq_iff_eq,subset_iff]
 constructor
 ·rintro⟨⟨h1,h2⟩,h3⟩
  exact⟨fun hm=>by rw [(mem_iff _ _).2 hm] at h1;simp at h1,h2,h3⟩
 ·rintro⟨h1,h2,h3⟩
  exact⟨⟨by cases h:mem done i with
   | true=>exact absurd ((mem_iff _ _).1 h) h1
   | false=>rfl,h2⟩,h3⟩
theorem pickQ_some {L:List Oper} {ac:List (List Nat)} {done l:List Nat} {i:Nat} (h:pickQ L ac done l=some i):i∈l∧avail L ac done false i=true:=by
 induction l with
 | nil=>simp [pickQ] at h
 | cons a l ih =>
  simp only [pickQ] at h
  cases ha:avail L ac done false a with
  | true=>rw [ha] at h;simp only [Option.some.injEq] at h;subst h;exact⟨by simp,ha⟩
  | false=>rw [ha] at h;obtain⟨h1,h2⟩:=ih h;exact⟨by simp [h1],h2⟩
theorem pickQ_none {L:List Oper} {ac:List (List Nat)} {done l:List Nat} (h:pickQ L ac done l=none):∀ i∈l,avail L ac done false i=false:=by
 induction l with
 | nil=>simp
 | cons a l ih =>
  simp only [pickQ] at h
  cases ha:avail L ac done false a with
  | true=>rw [ha] at h;simp at h
  | false =>
   rw [ha] at h
   intro i hi
   cases List.mem_cons.1 hi with
   | inl e=>exact e▸ha
   | inr e=>exact ih h i e
theorem loudN_mem {L:List Oper} {ac:List (List Nat)} {done l:List Nat} {i:Nat}:i∈loudN L ac done l↔i∈l∧avail L ac done true i=true:=by
 induction l with
 | nil=>simp [loudN]
 | cons a l ih =>
  simp only [loudN]
  cases ha:avail L ac done true a with
  | true =>
   simp only [List.mem_cons,ih]
   constructor
   ·rintro (rfl|⟨h1,h2⟩)
    ·exact⟨.inl rfl,ha⟩
    ·exact⟨.inr h1,h2⟩
   ·rintro⟨rfl|h1,h2⟩
    ·exact .inl rfl
    ·exact .inr ⟨h1,h2⟩
  | false =>
   simp only [List.mem_cons,ih]
   constructor
   ·rintro⟨h1,h2⟩;exact⟨.inr h1,h2⟩
   ·rintro⟨rfl|h1,h2⟩
    ·rw [ha] at h2;simp at h2
    ·exact⟨h1,h2⟩
theorem enum_mem (L:List Oper):∀ s i o,(i,o)∈enum s L↔∃ k,L[k]?=some o∧i=s+k:=by
 induction L with
 | nil=>intro s i o;simp [enum]
 | cons a L ih =>
  intro s i o
  simp only [enum,List.mem_cons,Prod.mk.injEq,ih]
  constructor
  ·rintro (⟨rfl,rfl⟩|⟨k,h1,rfl⟩)
   ·exact⟨0,by simp,by simp⟩
   ·exact⟨k+1,by simpa using h1,by omega⟩
  ·rintro⟨k,h1,rfl⟩
   cases k with
   | zero=>simp at h1;exact .inl ⟨rfl,h1.symm⟩
   | succ k=>exact .inr ⟨k,by simpa using h1,by omega⟩
theorem upto_mem (n i:Nat):i∈upto n↔i<n:=by
 induction n with
 | zero=>simp [upto]
 | succ n ih=>simp only [upto,snoc_eq,List.mem_append,ih,List.mem_singleton];omega
theorem drawB_ok {L:List Oper} (h:drawB L=true):DrawOk L (ancs L []):=by
 unfold drawB drawC at h
 simp only [Bool.and_eq_true] at h
 obtain⟨h1,h6⟩:=h
 rw [List.all_eq_true] at h1
 have hge:∀ (i:Nat) (o:Oper),L[i]?=some o→∀ e∈edges o,e<i:=fun i o ho=>by
  have:=h1 (i,o) ((enum_mem L 0 i o).2 ⟨i,ho,by simp⟩)
  simp only [List.all_eq_true] at this
  exact fun e he=>Nat.le_of_ble_eq_true (this e he)
 refine⟨fun i o ho=>hge i o ho,fun i o j o' d hi hj hd hne=>?_,fun i o j hi hj=>?_⟩
 ·simp only [slotOk,List.all_eq_true] at h6
  have:=h6 (i,o) ((enum_mem L 0 i o).2 ⟨i,hi,by simp⟩)
  simp only [hd] at this
  rw [List.all_eq_true] at this
  have:=this (j,o') ((enum_mem L 0 j o').2 ⟨j,hj,by simp⟩)
  have hb:Nat.beq i j=false:=by cases e:Nat.beq i j with
   | true=>exact absurd (Nat.eq_of_beq_eq_true e) hne
   | false=>rfl
  simp only [hb,Bool.false_or,Bool.and_eq_true,Bool.or_eq_true,Bool.not_eq_true'] at this
  refine⟨fun e=>by rw [e] at this;simp at this,fun hm=>?_⟩
  rcases this.2 with (h|h)|h
  ·rw [(mem_iff _ _).2 hm] at h;simp at h
  ·exact .inl ((mem_iff _ _).1 h)
  ·exact .inr ((mem_iff _ _).1 h)
 ·obtain⟨p,h3',h4'⟩:=(ancs_get L []).2 i o hi
  simp only [List.length_nil,Nat.zero_add] at h3' h4'
  simp only [ancOf,nth_eq,h3'] at hj
  obtain⟨e,he,hj⟩:=addAll_mem _ _ _ hj
  refine⟨e,he,?_⟩
  rcases hj with hj|hj
  ·exact .inl hj
  ·refine .inr ?_
   have hei:=hge i o hi e he
   simp only [ancOf,nth_eq] at hj ⊢
   rw [h4' e hei] at hj
   exact hj
theorem ev_congr {t t':List (Nat×AV)} {x:Operand} (h:∀ d,x=.tmp d→look t d=look t' d):ev t x=ev t' x:=by
 cases x with
 | tmp d=>exact h d rfl
 | _=>rfl
theorem evs_congr {t t':List (Nat×AV)} {l:List Operand} (h:∀ d,.tmp d∈l→look t d=look t' d):evs t l=evs t' l:=by
 induction l with
 | nil=>rfl
 | cons x l ih =>
  simp only [evs]
  rw [ev_congr (fun d e=>h d (by simp [e])),ih (fun d hd=>h d (by simp [hd]))]
theorem parts_congr {t t':List (Nat×AV)} {l:List (Nat×Operand)} (h:∀ d,.tmp d∈l.map (·.2)→look t d=look t' d):partsOf t l=partsOf t' l:=by
 induction l with
 | nil=>rfl
 | cons x l ih =>
  obtain⟨i,x⟩:=x
  simp only [partsOf]
  rw [ev_congr (fun d e=>h d (by simp [e])),ih (fun d hd=>h d (by simp at hd ⊢;exact .inr hd))]
theorem opt_congr {t t':List (Nat×AV)} {o:Option Operand} (h:∀ d,o=some (.tmp d)→look t d=look t' d):optEv t o=optEv t' o:=by
 cases o with
 | none=>rfl
 | some x=>simp only [optEv];rw [ev_congr (fun d e=>h d (by rw [e]))]
theorem slots_mem (l:List Operand) (d:Nat):d∈slots l↔.tmp d∈l:=by
 induction l with
 | nil=>simp [slots]
 | cons x l ih=>cases x<;>simp [slots,ih]
theorem aop_congr {T:Tab} {call:ACall} {o:Oper} {t t':List (Nat×AV)} {K:List ABlk} {k kp:AV→List ABlk→Prop} (h:∀ d,d∈slots o.op.operands.toList→look t d=look t' d) :
  aop T call o t K k kp=aop T call o t' K k kp:=by
 have hm:∀ d,Operand.tmp d∈o.op.operands.toList→look t d=look t' d:=fun d hd=>h d ((slots_mem _ _).2 hd)
 clear h
 unfold aop
 cases hop:o.op<;>rw [hop] at hm<;>simp only [Op.operands] at hm<;>try simp only
 case call c =>
  simp only [Call.operands] at hm
  cases hc:c.callee with
  | value f =>
   rw [hc] at hm
   simp only at hm ⊢
   rw [ev_congr (x:=f) (fun d e=>hm d (by simp [e])),evs_congr (l:=c.args.toList) (fun d hd=>hm d (by simp;exact .inr (by simpa using hd)))]
  | builtin b =>
   rw [hc] at hm
   simp only at hm ⊢
   have ha:∀ x,x∈c.args.toList→ev t x=ev t' x:=fun x hx=>ev_congr fun d e=>hm d (by subst e;simpa using hx)
   cases b<;>try rfl
   all_goals
    (simp only
     split<;>first|rfl|(rename_i heq;rw [heq] at ha;simp at ha;simp only [ha]))
  | invoke r n=>rfl
 case panic x=>rw [ev_congr (x:=x) (fun d e=>hm d (by simp [e]))]
 case typeAssert x xt ty ok=>rw [ev_congr (x:=x) (fun d e=>hm d (by simp [e]))]
 case build ty ps=>rw [parts_congr (fun d hd=>hm d (by simpa using hd))]
 case buildSlice ty n ps=>rw [parts_congr (fun d hd=>hm d (by simpa using hd))]
 case makeFunc fn x y =>
  cases fn<;>try rfl
  simp only
  rw [evs_congr (l:=x.toList) (fun d hd=>hm d (by simp;exact .inl (by simpa using hd))),evs_congr (l:=y.toList) (fun d hd=>hm d (by simp;exact .inr (by simpa using hd)))]
 case slice ty x lo hi mx =>
  cases mx with
  | some _=>rfl
  | none =>
   simp only
   rw [ev_congr (x:=x) (fun d e=>hm d (by simp [e])),opt_congr (o:=lo) (fun d e=>hm d (by simp [e])),opt_congr (o:=hi) (fun d e=>hm d (by simp [e]))]
 case pick c x y=>rw [ev_congr (x:=c) (fun d e=>hm d (by simp [e])),ev_congr (x:=x) (fun d e=>hm d (by simp [e])),ev_congr (x:=y) (fun d e=>hm d (by simp [e]))]
 case makeMap ty r=>cases r<;>rfl
 case lookup ty x y ok=>rw [ev_congr (x:=x) (fun d e=>hm d (by simp [e])),ev_congr (x:=y) (fun d e=>hm d (by simp [e]))]
 case mapEntry ty x y=>rw [ev_congr (x:=x) (fun d e=>hm d (by simp [e])),ev_congr (x:=y) (fun d e=>hm d (by simp [e]))]
 case mapUpdate ty x y z=>rw [ev_congr (x:=x) (fun d e=>hm d (by simp [e])),ev_congr (x:=y) (fun d e=>hm d (by simp [e])),ev_congr (x:=z) (fun d e=>hm d (by simp [e]))]
 case insert ty x y z=>rw [ev_congr (x:=x) (fun d e=>hm d (by simp [e])),ev_congr (x:=y) (fun d e=>hm d (by simp [e])),ev_congr (x:=z) (fun d e=>hm d (by simp [e]))]
 case entryStore ty x y z=>rw [ev_congr (x:=x) (fun d e=>hm d (by simp [e])),ev_congr (x:=y) (fun d e=>hm d (by simp [e])),ev_congr (x:=z) (fun d e=>hm d (by simp [e]))]
 case store ty x y=>rw [ev_congr (x:=x) (fun d e=>hm d (by simp [e])),ev_congr (x:=y) (fun d e=>hm d (by simp [e]))]
 case makeSlice ty x y=>rw [ev_congr (x:=x) (fun d e=>hm d (by simp [e])),ev_congr (x:=y) (fun d e=>hm d (by simp [e]))]
 case fieldAddr ty x i=>rw [ev_congr (x:=x) (fun d e=>hm d (by simp [e]))]
 case field ty x i=>rw [ev_congr (x:=x) (fun d e=>hm d (by simp [e]))]
 case indexAddr ty x y=>rw [ev_congr (x:=x) (fun d e=>hm d (by simp [e])),ev_congr (x:=y) (fun d e=>hm d (by simp [e]))]
 case index ty x y=>rw [ev_congr (x:=x) (fun d e=>hm d (by simp [e])),ev_congr (x:=y) (fun d e=>hm d (by simp [e]))]
 case extract x i=>rw [ev_congr (x:=x) (fun d e=>hm d (by simp [e]))]
 case binOp op ty x y yt=>rw [ev_congr (x:=x) (fun d e=>hm d (by simp [e])),ev_congr (x:=y) (fun d e=>hm d (by simp [e]))]
 case load ty x=>rw [ev_congr (x:=x) (fun d e=>hm d (by simp [e]))]
 case box e x=>rw [ev_congr (x:=x) (fun d e=>hm d (by simp [e]))]
 case nilCheck x=>rw [ev_congr (x:=x) (fun d e=>hm d (by simp [e]))]
 case unOp op ty x=>rw [ev_congr (x:=x) (fun d e=>hm d (by simp [e]))]
 case convert s d x=>rw [ev_congr (x:=x) (fun d e=>hm d (by simp [e]))]
 case makeInterface ty x=>rw [ev_congr (x:=x) (fun d e=>hm d (by simp [e]))]
 case move x=>rw [ev_congr (x:=x) (fun d e=>hm d (by simp [e]))]
 case assign x=>rw [ev_congr (x:=x) (fun d e=>hm d (by simp [e]))]
 all_goals rfl
def Same (v:AV) (K:List ABlk) (v':AV) (K':List ABlk):Prop:=v'=v∧K'=K
theorem Same.refl (v:AV) (K:List ABlk):Same v K v K:=⟨rfl,rfl⟩
def Pure (F:List ABlk→(AV→List ABlk→Prop)→Prop):Prop:=∀ K k,F K k→∃ v,k v K∧∀ K2,F K2 (Same v K2)
def Read (F:List ABlk→(AV→List ABlk→Prop)→Prop):Prop:=∀ K k,F K k→∃ v,k v K∧F K (Same v K)
theorem Pure.read {F:List ABlk→(AV→List ABlk→Prop)→Prop} (h:Pure F):Read F:=fun K k hF=>let ⟨v,h1,h2⟩:=h K k hF;⟨v,h1,h2 K⟩
section
variable {T:Tab}
theorem pure_v (v:AV):Pure fun K k=>fV v fun v=>k v K:=fun K k h=>by
 simp only [fV_eq] at h ⊢;exact⟨_,h,fun K2=>Same.refl _ _⟩
theorem pure_c (v:AV):Pure fun K k=>k v K:=fun K k h=>⟨_,h,fun K2=>Same.refl _ _⟩
theorem pure_f:Pure fun _ _=>False:=fun K k h=>h.elim
theorem pure_chk {c:Prop} {F:List ABlk→(AV→List ABlk→Prop)→Prop} (h:Pure F):Pure fun K k=>Chk c (F K k):=fun K k hc =>
 let ⟨v,h1,h2⟩:=h K k hc.k;⟨v,h1,fun K2=>⟨hc.h,h2 K2⟩⟩
theorem pure_two (b:Bool) {F G:List ABlk→(AV→List ABlk→Prop)→Prop} (h:Pure F) (h':Pure G):Pure fun K k=>two b (F K k) (G K k):=by
 cases b
 ·exact h'
 ·exact h
theorem pure_vl (l:List AV) (f:List AV→AV):Pure fun K k=>fVL l fun l=>k (f l) K:=fun K k h=>by
 simp only [fVL_eq] at h ⊢;exact⟨_,h,fun K2=>Same.refl _ _⟩
theorem pure_part (ti:TI) (cs:List AV) (off:Nat):Pure fun K k=>part ti cs off fun v=>k v K:=by
 unfold part
 cases ti.agg
 ·simp only
  cases nth cs off with
  | none=>exact pure_f
  | some v=>exact pure_v v
 ·simp only
  cases Nat.ble (off+ti.size) (len cs)
  ·exact pure_f
  ·exact pure_vl _ AV.agg
theorem read_load (ty:Nat) (a:AV):Read fun K k=>opLoad T K k ty a:=by
 intro K k h
 unfold opLoad at h ⊢
 cases hg:T.t.get ty with
 | none=>rw [hg] at h;exact h.elim
 | some ti =>
  rw [hg] at h
  simp only at h ⊢
  cases a with
  | rop cs off=>exact (pure_part ti (pvs cs) off).read K k h
  | ptr r ver n i off =>
   simp only at h ⊢
   cases hn:nth K r with
   | none=>rw [hn] at h;exact h.elim
   | some b =>
    rw [hn] at h
    cases b with
    | box bt cs =>
     simp only at h ⊢
     split at h
     ·exact (pure_part ti cs off).read K k h
     ·exact h.elim
    | arr et sz ver' n' f=>exact (pure_chk (pure_part ti (f i) off)).read K k h
    | _=>exact h.elim
  | _=>exact h.elim
theorem pure_build (ty:Nat) (ps:List (Nat×AV)):Pure fun K k=>opBuild T K k ty ps:=by
 unfold opBuild
 cases T.t.get ty with
 | none=>exact pure_f
 | some ti =>
  simp only
  cases ti.u with
  | struct fs =>
   simp only
   cases fillS T.t fs (pvs ti.zero) ps with
   | none=>exact pure_f
   | some cs=>exact pure_vl _ AV.agg
  | _=>exact pure_f
theorem pure_nil (a:AV):Pure fun K k=>opNilCheck K k a:=by
 unfold opNilCheck
 cases a with
 | p v=>cases v<;>first|exact pure_f|exact pure_c _
 | _=>first|exact pure_f|exact pure_c _
theorem pure_int (op:BinOp) (q:IntKind) (a b:Int):Pure fun K k=>opInt K k op q a b:=by
 unfold opInt
 cases op<;>first|exact pure_f|exact pure_c _|exact pure_chk (pure_c _)
theorem pure_shift (op:BinOp) (q:IntKind) (a b:Int):Pure fun K k=>opShift K k op q a b:=by
 unfold opShift
 cases op<;>first|exact pure_f|exact pure_chk (pure_c _)
theorem pure_str (op:BinOp) (a b:List UInt8):Pure fun K k=>opStr K k op a b:=by
 unfold opStr
 cases op<;>first|exact pure_f|exact pure_c _|exact pure_chk (pure_c _)
theorem pure_bin (op:BinOp) (ty:Nat) (x y:AV):Pure fun K k=>opBin T K k op ty x y:=by
 unfold opBin
 cases x with
 | p x =>
  cases x with
  | int q a =>
   cases y with
   | p y =>
    cases y with
    | int q' b =>
     simp only
     cases isShift op with
     | true=>exact pure_shift op q a b
     | false =>
      simp only
      cases decide (q=q') with
      | true=>exact pure_int op q a b
      | false=>exact pure_f
    | _=>exact pure_f
   | _=>exact pure_f
  | str a =>
   cases y with
   | p y=>cases y<;>first|exact pure_str op a _|exact pure_f
   | _=>exact pure_f
  | bool a =>
   cases y with
   | p y =>
    cases y with
    | bool b =>
     simp only
     cases T.t.get ty with
     | none=>exact pure_f
     | some ti =>
      simp only
      cases ti.u with
      | bool=>cases op<;>first|exact pure_f|exact pure_c _
      | _=>exact pure_f
    | _=>exact pure_f
   | _=>exact pure_f
  | _=>exact pure_f
 | agg xs =>
  cases y with
  | agg ys =>
   show Pure fun K k=>opEqAgg T K k op ty xs ys
   unfold opEqAgg
   cases eqTy T.e ty with
   | none=>exact pure_f
   | some ks =>
    simp only
    cases okCs ks xs ys with
    | false=>exact pure_f
    | true=>cases op<;>first|exact pure_f|exact pure_c _
  | _=>exact pure_f
 | _=>exact pure_f
theorem pure_nilcmp (op:BinOp) (ty:Nat) (x:AV) (c:PV):Pure fun K k=>opNilCmp T K k op ty x c:=by
 unfold opNilCmp
 split
 ·exact pure_f
 ·split
  ·exact pure_f
  ·split
   ·exact pure_c _
   ·exact pure_c _
   ·exact pure_f
theorem pure_un (op:UnOp) (x:AV):Pure fun K k=>opUn K k op x:=by
 unfold opUn
 cases op with
 | not =>
  cases x with
  | p x=>cases x<;>first|exact pure_c _|exact pure_f
  | _=>exact pure_f
 | neg =>
  cases x with
  | p x=>cases x<;>first|exact pure_c _|exact pure_f
  | _=>exact pure_f
 | _=>exact pure_f
theorem pure_conv (s d:Nat) (x:AV):Pure fun K k=>opConv T K k s d x:=by
 unfold opConv
 cases T.t.get s with
 | none=>exact pure_f
 | some si =>
  simp only
  cases T.t.get d with
  | none=>exact pure_f
  | some di =>
   simp only
   cases di.u with
   | int q =>
    cases x with
    | p x=>cases x<;>first|exact pure_c _|exact pure_f
    | _=>exact pure_f
   | string =>
    cases x with
    | p x=>cases x<;>first|exact pure_c _|exact pure_f
    | _=>exact pure_f
   | slice e =>
    simp only
    cases T.t.get e with
    | none=>exact pure_f
    | some ei =>
     simp only
     split
     ·cases x with
      | p x=>cases x<;>first|exact pure_chk (pure_c _)|exact pure_f
      | _=>exact pure_f
     ·exact pure_f
   | _=>exact pure_f
theorem pure_iface (ty:Nat) (x:AV):Pure fun K k=>opIface T K k ty x:=by
 unfold opIface
 cases T.t.get ty with
 | none=>exact pure_f
 | some ti=>simp only;cases ti.u<;>first|exact pure_f|exact pure_c _
theorem pure_fieldAddr (ty:Nat) (x:AV) (i:Nat):Pure fun K k=>opFieldAddr T K k ty x i:=by
 unfold opFieldAddr
 cases T.t.get ty with
 | none=>exact pure_f
 | some ti =>
  simp only
  cases ti.u with
  | struct fs =>
   simp only
   cases nth fs i with
   | none=>exact pure_f
   | some o =>
    simp only
    cases T.t.get o.2 with
    | none=>exact pure_f
    | some fi =>
     simp only
     cases Nat.beq fi.size 0
     ·cases x<;>first|exact pure_f|exact pure_c _
     ·exact pure_f
  | _=>exact pure_f
theorem pure_field (ty:Nat) (x:AV) (i:Nat):Pure fun K k=>opField T K k ty x i:=by
 unfold opField
 cases T.t.get ty with
 | none=>exact pure_f
 | some ti =>
  simp only
  cases ti.u with
  | struct fs =>
   simp only
   cases nth fs i with
   | none=>exact pure_f
   | some o =>
    simp only
    cases T.t.get o.2 with
    | none=>exact pure_f
    | some fi=>cases x<;>first|exact pure_f|exact pure_part _ _ _
  | _=>exact pure_f
theorem pure_index (ty:Nat) (x i:AV):Pure fun K k=>opIndex T K k ty x i:=by
 unfold opIndex
 cases T.t.get ty with
 | none=>exact pure_f
 | some ti =>
  simp only
  cases i with
  | p i =>
   cases i with
   | int q i =>
    simp only
    cases ti.u with
    | string =>
     cases x with
     | p x=>cases x<;>first|exact pure_f|exact pure_chk (pure_c _)
     | _=>exact pure_f
    | array len e =>
     simp only
     cases T.t.get e with
     | none=>exact pure_f
     | some ei =>
      simp only
      cases Nat.beq ei.size 1 with
      | false=>exact pure_f
      | true=>cases x<;>first|exact pure_f|exact pure_chk (pure_part _ _ _)
    | _=>exact pure_f
   | _=>exact pure_f
  | _=>exact pure_f
theorem pure_extract (x:AV) (i:Nat):Pure fun K k=>opExtract K k x i:=by
 unfold opExtract
 cases x with
 | tup vs =>
  simp only
  cases nth vs i with
  | none=>exact pure_f
  | some v=>exact pure_v v
 | _=>exact pure_f
theorem pure_len (ty:Nat) (x:AV):Pure fun K k=>opLen T K k ty x:=by
 unfold opLen
 cases T.t.get ty with
 | none=>exact pure_f
 | some ti =>
  simp only
  cases ti.u with
  | string =>
   cases x with
   | p x=>cases x<;>first|exact pure_f|exact pure_c _
   | _=>exact pure_f
  | slice e =>
   cases x with
   | p x=>cases x<;>first|exact pure_f|exact pure_c _
   | slr r ver off n=>exact pure_c _
   | _=>exact pure_f
  | _=>exact pure_f
theorem pure_maxmin (b:Bool) (x y:AV):Pure fun K k=>opMaxMin K k b x y:=by
 unfold opMaxMin
 cases x with
 | p x =>
  cases x with
  | int q a =>
   cases y with
   | p y=>cases y<;>first|exact pure_f|(cases b<;>exact pure_c _)
   | _=>exact pure_f
  | _=>exact pure_f
 | _=>exact pure_f
theorem read_slice (ty:Nat) (x:AV) (lo hi:Option AV):Read fun K k=>opSlice T K k ty x lo hi:=by
 intro K k h
 unfold opSlice at h ⊢
 cases hg:T.t.get ty with
 | none=>rw [hg] at h;exact h.elim
 | some ti =>
  rw [hg] at h
  simp only at h ⊢
  cases hU:ti.u with
  | string =>
   rw [hU] at h
   cases x with
   | p x =>
    cases x with
    | str s =>
     simp only at h ⊢
     cases hl:bnd 0 lo with
     | none=>rw [hl] at h;exact h.elim
     | some l =>
      rw [hl] at h
      simp only at h ⊢
      cases hh:bnd s.length hi with
      | none=>rw [hh] at h;exact h.elim
      | some hb =>
       rw [hh] at h
       exact (pure_chk (pure_c _)).read K k h
    | _=>exact h.elim
   | _=>exact h.elim
  | slice e =>
   rw [hU] at h
   simp only at h ⊢
   cases hge:T.t.get e with
   | none=>rw [hge] at h;exact h.elim
   | some ei =>
    rw [hge] at h
    cases x with
    | p x =>
     cases x with
     | sl sz n f =>
      simp only at h ⊢
      cases hl:bnd 0 lo with
      | none=>rw [hl] at h;exact h.elim
      | some l =>
       rw [hl] at h
       simp only at h ⊢
       cases hh:bnd n hi with
       | none=>rw [hh] at h;exact h.elim
       | some hb =>
        rw [hh] at h
        exact (pure_chk (pure_c _)).read K k h
     | _=>exact h.elim
    | slr r ver off n =>
     simp only at h ⊢
     cases hi with
     | some _=>exact h.elim
     | none =>
      simp only at h ⊢
      cases hl:bnd 0 lo with
      | none=>rw [hl] at h;exact h.elim
      | some l =>
       rw [hl] at h
       simp only at h ⊢
       cases hn:nth K r with
       | none=>rw [hn] at h;exact h.elim
       | some b =>
        rw [hn] at h
        cases b with
        | arr et sz ver' n' f=>exact (pure_chk (pure_c _)).read K k h
        | _=>exact h.elim
    | _=>exact h.elim
  | _=>rw [hU] at h;exact h.elim
theorem read_indexAddr (ty:Nat) (x i:AV):Read fun K k=>opIndexAddr T K k ty x i:=by
 intro K k h
 unfold opIndexAddr at h ⊢
 cases hg:T.t.get ty with
 | none=>rw [hg] at h;exact h.elim
 | some ti =>
  rw [hg] at h
  simp only at h ⊢
  cases hU:ti.u with
  | slice e =>
   rw [hU] at h
   simp only at h ⊢
   cases hge:T.t.get e with
   | none=>rw [hge] at h;exact h.elim
   | some ei =>
    rw [hge] at h
    cases i with
    | p i =>
     cases i with
     | int q i =>
      simp only at h ⊢
      cases x with
      | p x =>
       cases x with
       | sl sz n f =>
        simp only [fL_eq] at h ⊢
        exact (pure_chk (pure_c _)).read K k h
       | _=>exact h.elim
      | slr r ver off n =>
       simp only at h ⊢
       cases hn:nth K r with
       | none=>rw [hn] at h;exact h.elim
       | some b =>
        rw [hn] at h
        cases b with
        | arr et sz ver' n' f=>exact (pure_chk (pure_c _)).read K k h
        | _=>exact h.elim
      | _=>exact h.elim
     | _=>exact h.elim
    | _=>exact h.elim
  | array len e =>
   rw [hU] at h
   simp only at h ⊢
   cases hge:T.t.get e with
   | none=>rw [hge] at h;exact h.elim
   | some ei =>
    rw [hge] at h
    simp only at h ⊢
    cases hb:Nat.beq ei.size 1 with
    | false=>rw [hb] at h;exact h.elim
    | true =>
     rw [hb] at h
     cases i with
     | p i =>
      cases i with
      | int q i =>
       simp only at h ⊢
       cases x with
       | ptr r ver n j off=>cases off<;>first|exact h.elim|exact (pure_chk (pure_c _)).read K k h
       | rop cs off=>cases off<;>first|exact h.elim|exact (pure_chk (pure_c _)).read K k h
       | _=>exact h.elim
      | _=>exact h.elim
     | _=>exact h.elim
  | _=>rw [hU] at h;exact h.elim
theorem zeroV_one {ti:TI} {q:AV→Prop} (h:zeroV ti q):∃ z,q z∧∀ q':AV→Prop,q' z→zeroV ti q':=by
 unfold zeroV at h ⊢
 split at h
 ·simp only [fVL_eq] at h ⊢
  exact⟨_,h,fun _ h=>h⟩
 ·split at h
  ·simp only [fV_eq] at h ⊢
   exact⟨_,h,fun _ h=>h⟩
  ·exact h.elim
theorem ansM_pure (ok:Bool) (v:AV) (b:Bool) {k:AV→List ABlk→Prop} {K:List ABlk} (h:ansM ok v b fun v=>k v K):∃ z,k z K∧∀ q:AV→Prop,q z→ansM ok v b q:=by
 cases ok<;>exact⟨_,h,fun _ h=>h⟩
theorem fnM_one {kt:KT} {x:AV} {q:(MK→Option AV)→Prop} {K:List ABlk} (h:fnM K kt x q):∃ g,q g∧∀ q':(MK→Option AV)→Prop,q' g→fnM K kt x q':=by
 cases x with
 | p x =>
  cases x with
  | nilm=>exact⟨_,h,fun _ h=>h⟩
  | mp kt' g =>
   cases hk:ktIs kt' kt with
   | true=>simp only [fnM,hk] at h;exact⟨_,h,fun _ h=>by simp only [fnM,hk];exact h⟩
   | false=>simp only [fnM,hk] at h
  | _=>exact h.elim
 | mref r =>
  cases hn:nth K r with
  | none=>simp only [fnM,hn] at h
  | some b =>
   cases b with
   | mp kt' g st =>
    cases hk:ktIs kt' kt with
    | true=>simp only [fnM,hn,hk] at h;exact⟨_,h,fun _ h=>by simp only [fnM,hn,hk];exact h⟩
    | false=>simp only [fnM,hn,hk] at h
   | _=>simp only [fnM,hn] at h
 | _=>exact h.elim
theorem mapTy_one {ty:Nat} {q:KT→TI→Prop} (h:mapTy T ty q):∃ kt ei,q kt ei∧∀ q':KT→TI→Prop,q' kt ei→mapTy T ty q':=by
 unfold mapTy at h ⊢
 cases hg:T.t.get ty with
 | none=>rw [hg] at h;exact h.elim
 | some ti =>
  rw [hg] at h
  simp only at h ⊢
  cases hU:ti.u with
  | map kty e =>
   rw [hU] at h
   simp only at h ⊢
   cases hk:T.t.get kty with
   | none=>rw [hk] at h;exact h.elim
   | some ki =>
    rw [hk] at h
    simp only at h ⊢
    cases hkt:ki.u.kt with
    | none=>rw [hkt] at h;exact h.elim
    | some kt =>
     rw [hkt] at h
     simp only at h ⊢
     cases he:T.t.get e with
     | none=>rw [he] at h;exact h.elim
     | some ei =>
      rw [he] at h
      exact⟨kt,ei,h,fun _ h=>h⟩
  | _=>rw [hU] at h;exact h.elim
theorem read_lookup (ty:Nat) (ok:Bool) (x key:AV):Read fun K k=>opLookup T K k ty ok x key:=by
 intro K k h
 unfold opLookup at h ⊢
 obtain⟨kt,ei,h,hback⟩:=mapTy_one h
 cases hko:keyOf key with
 | none=>rw [hko] at h;exact h.elim
 | some κ =>
  rw [hko] at h
  simp only at h
  cases hki:ktIs κ.kt kt with
  | false=>rw [hki] at h;exact h.elim
  | true =>
   rw [hki] at h
   obtain⟨g,hg,hb2⟩:=fnM_one h
   have key2:∃ v,k v K∧∀ q:AV→Prop,q v→MGet (g κ) (fun a=>ansM ok a true q) (zeroV ei fun z=>ansM ok z false q):=by
    cases hgk:g κ with
    | some a =>
     obtain⟨v,h1,h2⟩:=ansM_pure ok a true (hg.y a hgk)
     exact⟨v,h1,fun q hq=>⟨fun a' e=>by injection e with e;subst e;exact h2 q hq,fun e=>by simp at e⟩⟩
    | none =>
     obtain⟨z,h1,h2⟩:=zeroV_one (hg.n hgk)
     obtain⟨v,h3,h4⟩:=ansM_pure ok z false h1
     exact⟨v,h3,fun q hq=>⟨fun a' e=>by simp at e,fun _=>h2 _ (h4 q hq)⟩⟩
   obtain⟨v,h1,h2⟩:=key2
   refine⟨v,h1,?_⟩
   apply hback
   simp only [hko,hki]
   exact hb2 _ (h2 _ (Same.refl _ _))
theorem aop_pure {call:ACall} {o:Oper} (hk:kind o.op=0) (t:List (Nat×AV)) (kp:AV→List ABlk→Prop):Pure fun K k=>aop T call o t K k kp:=by
 unfold aop
 cases hop:o.op<;>rw [hop] at hk<;>simp only [kind] at hk<;>(try (simp at hk;done))
 case move x=>exact pure_v _
 case assign x=>exact pure_v _
 case pick c x y =>
  simp only
  cases ev t c with
  | p v=>cases v<;>first|exact pure_f|exact pure_two _ (pure_v _) (pure_v _)
  | _=>exact pure_f
 case build ty ps=>exact pure_build _ _
 case nilCheck x=>exact pure_nil _
 case binOp op ty x y yt =>
  simp only
  split
  ·exact pure_nilcmp _ _ _ _
  ·exact pure_bin _ _ _ _
 case unOp op ty x=>exact pure_un _ _
 case convert s d x=>exact pure_conv _ _ _
 case makeInterface ty x=>exact pure_iface _ _
 case makeFunc fn x y =>
  cases fn with
  | func f =>
   intro K k h
   simp only [fVL_eq] at h ⊢
   exact⟨_,h,fun K2=>Same.refl _ _⟩
  | _=>exact pure_f
 case fieldAddr ty x i=>exact pure_fieldAddr _ _ _
 case field ty x i=>exact pure_field _ _ _
 case index ty x i=>exact pure_index _ _ _
 case extract x i=>exact pure_extract _ _
 case call c =>
  simp only
  cases hc:c.callee with
  | builtin b =>
   rw [hc] at hk
   cases b<;>simp only at hk<;>(try (simp at hk;done))
   case len =>
    simp only
    split
    ·split
     ·exact pure_len _ _
     ·exact pure_f
    ·exact pure_f
   case max =>
    simp only
    split
    ·exact pure_maxmin _ _ _
    ·exact pure_f
   case min =>
    simp only
    split
    ·exact pure_maxmin _ _ _
    ·exact pure_f
  | _=>rw [hc] at hk;simp at hk
theorem aop_read {call:ACall} {o:Oper} (hk:kind o.op=1) (t:List (Nat×AV)) (kp:AV→List ABlk→Prop):Read fun K k=>aop T call o t K k kp:=by
 unfold aop
 cases hop:o.op<;>rw [hop] at hk<;>simp only [kind] at hk<;>(try (simp at hk;done))
 case load ty x=>exact read_load _ _
 case indexAddr ty x i=>exact read_indexAddr _ _ _
 case lookup ty x i ok=>exact read_lookup _ _ _ _
 case slice ty x lo hi mx =>
  cases mx with
  | none=>exact read_slice _ _ _ _
  | some _=>exact pure_f.read
 case call c =>
  cases hc:c.callee with
  | builtin b=>rw [hc] at hk;cases b<;>simp at hk
  | _=>rw [hc] at hk;simp at hk
end
theorem aopG_pure {T:Tab} {call:ACall} {ops:List Oper} {o:Oper} (hk:kind o.op=0) (t:List (Nat×AV)) (kp:AV→List ABlk→Prop):Pure fun K k=>aopG T call ops o t K k kp:=by
 unfold aopG
 split
 ·exact aop_pure hk t kp
 ·split
  ·exact pure_f
  ·split
   ·exact pure_f
   ·split
    ·split
     ·exact aop_pure hk t kp
     ·exact aop_pure hk t kp
     ·exact pure_c (.tup [])
    ·exact pure_c (.tup [])
    ·exact pure_f
theorem aopG_read {T:Tab} {call:ACall} {ops:List Oper} {o:Oper} (hk:kind o.op=1) (t:List (Nat×AV)) (kp:AV→List ABlk→Prop):Read fun K k=>aopG T call ops o t K k kp:=by
 unfold aopG
 split
 ·exact aop_read hk t kp
 ·split
  ·exact pure_f.read
  ·split
   ·exact pure_f.read
   ·split
    ·split
     ·exact aop_read hk t kp
     ·exact aop_read hk t kp
     ·exact (pure_c (.tup [])).read
    ·exact (pure_c (.tup [])).read
    ·exact pure_f.read
theorem aopG_cases {T:Tab} {call:ACall} {ops:Array Oper} {o:Oper} {t:List (Nat×AV)} {K:List ABlk} {k kp:AV→List ABlk→Prop} {w:World} {m:Mp} {tmps:Array Value} (hE:∀ d,d∈slotsG ops.toList o→V w m (look t d) (tmps.getD d undef))
  (h:aopG T call ops.toList o t K k kp):(Region.wanted o (yielded ops tmps)=true∧aop T call o t K k kp)∨(Region.wanted o (yielded ops tmps)=false∧k (.tup []) K):=by
 unfold aopG at h
 cases hg:o.guard with
 | none=>rw [hg] at h;exact .inl ⟨by simp [Region.wanted,hg],h⟩
 | some g =>
  obtain⟨j,wn⟩:=g
  rw [hg] at h
  simp only at h
  cases hj:nth ops.toList j with
  | none=>rw [hj] at h;exact h.elim
  | some oj =>
   rw [hj] at h
   simp only at h
   cases hdj:oj.dst with
   | none=>rw [hdj] at h;exact h.elim
   | some d =>
    rw [hdj] at h
    simp only at h
    have hEd:=hE d (by simp [slotsG,gslot,hg,hj,hdj])
    cases hb':look t d with
    | p v =>
     cases v with
     | bool b =>
      rw [hb'] at h hEd
      have hu:tmps.getD d undef=.bool b:=by
       generalize tmps.getD d undef=u at hEd
       cases hEd with
       | p _ _ h=>cases h;rfl
      have hy:yielded ops tmps j=some b:=by
       have h1:ops[j]?=some oj:=by rw [nth_eq] at hj;simpa using hj
       have h2:tmps[d]?=some (.bool b):=by
        rw [Array.getD_eq_getD_getElem?] at hu
        cases h3:tmps[d]? with
        | none=>rw [h3] at hu;simp [undef] at hu
        | some u=>rw [h3] at hu;simp at hu;rw [hu]
       simp only [yielded,h1,Option.bind_some,hdj,h2]
      have hw:Region.wanted o (yielded ops tmps)=(b==wn):=by
       simp only [Region.wanted,hg,hy]
       cases b<;>cases wn<;>rfl
      cases wn<;>cases b<;>first|exact .inl ⟨by rw [hw];rfl,h⟩|exact .inr ⟨by rw [hw];rfl,h⟩
     | _=>rw [hb'] at h;exact h.elim
    | tup vs =>
     cases vs with
     | cons v r=>rw [hb'] at h;exact h.elim
     | nil =>
      rw [hb'] at h hEd
      have hu:tmps.getD d undef=.tuple #[]:=by
       generalize tmps.getD d undef=u at hEd
       cases hEd with
       | tup _ A hA _ =>
        have:A=#[]:=by apply Array.eq_empty_of_size_eq_zero;simpa using hA.symm
        rw [this]
      have hy:yielded ops tmps j=none:=by
       have h1:ops[j]?=some oj:=by rw [nth_eq] at hj;simpa using hj
       simp only [yielded,h1,Option.bind_some,hdj]
       rw [Array.getD_eq_getD_getElem?] at hu
       cases h3:tmps[d]? with
       | none=>rfl
       | some u=>rw [h3] at hu;simp at hu;rw [hu]
      exact .inr ⟨by simp [Region.wanted,hg,hy],h⟩
    | _=>rw [hb'] at h;exact h.elim
section
variable {P:Program} {T:Tab} {call:ACall} {we:World} {me:Mp} {N:Nat} {D0:List Deferred} {bm:Bool} {ro:Option Nat} {nn:Nat} {L:List Oper} {ac:List (List Nat)}
theorem recheck_ok {an:List Nat} {K:List ABlk} {k:Prop} {rd:List (Nat×List (Nat×AV)×AV)} (h:recheck T call L an K k rd) :
  k∧∀ q t v,(q,t,v)∈rd→q ∉ an→∃ o,L[q]?=some o∧aopG T call L o t K (fun v' _=>v'=v) (fun _ _=>False):=by
 induction rd with
 | nil=>exact⟨h,by simp⟩
 | cons x rd ih =>
  obtain⟨q,t,v⟩:=x
  rw [recheck_cons] at h
  cases hm:mem an q with
  | true =>
   rw [hm] at h
   obtain⟨h1,h2⟩:=ih h
   refine⟨h1,fun q' t' v' hx hn=>?_⟩
   cases List.mem_cons.1 hx with
   | inl e=>injection e with e1 _;subst e1;exact absurd ((mem_iff _ _).1 hm) hn
   | inr e=>exact h2 q' t' v' e hn
  | false =>
   rw [hm] at h
   simp only at h
   cases ho:nth L q with
   | none=>rw [ho] at h;exact h.elim
   | some o =>
    rw [ho] at h
    obtain⟨h1,h2⟩:=ih h.2
    refine⟨h1,fun q' t' v' hx hn=>?_⟩
    cases List.mem_cons.1 hx with
    | inl e =>
     injection e with e1 e2
     injection e2 with e2 e3
     subst e1 e2 e3
     exact⟨o,by rw [← nth_eq];exact ho,h.1⟩
    | inr e=>exact h2 q' t' v' e hn
def QFact (T:Tab) (call:ACall) (N:Nat) (L:List Oper) (ac:List (List Nat)) (rd:List (Nat×List (Nat×AV)×AV)) (t0 t:List (Nat×AV)) (K:List ABlk) (q:Nat):Prop :=
 ∃ o tq v,L[q]?=some o∧(kind o.op≠2∧∀ d,o.dst=some d→d<N)∧(∀ d,o.dst=some d→look t d=v) ∧
  (∀ d∈slotsG L o,((∃ i∈ancOf ac q,dstAt L i=some d)→look tq d=look t d)∧((∀ i∈ancOf ac q,dstAt L i≠some d)→look tq d=look t0 d)) ∧
  (kind o.op=0→∀ K2,aopG T call L o tq K2 (Same v K2) (fun _ _=>False))∧(kind o.op=1→(q,tq,v)∈rd∧aopG T call L o tq K (Same v K) (fun _ _=>False))
structure DInv (P:Program) (T:Tab) (call:ACall) (we:World) (me:Mp) (N:Nat) (L:List Oper) (ac:List (List Nat)) (Q:Ex→AS→Prop) (t0:List (Nat×AV))
  (E:Nat→Prop) (n:Nat) (pre:List Nat) (rd:List (Nat×List (Nat×AV)×AV)) (t:List (Nat×AV)) (K:List ABlk) (w:World) (m:Mp) (tmps:Array Value):Prop where
 anc:∀ i∈pre,∀ j∈ancOf ac i,j∈pre
 lt:∀ i∈pre,i<L.length
 sub:∀ i,E i→i∈pre
 loud:∀ i∈pre,kindAt L i=2→E i
 tr:Tr we me w m
 st:St w m (hp K)
 size:tmps.size=N
 rest:adraw T call N L ac n pre rd t K Q
 done:∀ d i,E i→dstAt L i=some d→V w m (look t d) (tmps.getD d undef)
 old:∀ d,(∀ i,E i→dstAt L i≠some d)→V w m (look t0 d) (tmps.getD d undef)
 keep:∀ d,(∀ i∈pre,dstAt L i≠some d)→look t d=look t0 d
 quiet:∀ q∈pre,¬ E q→QFact T call N L ac rd t0 t K q
theorem dstAt_some {i d:Nat} (h:dstAt L i=some d):∃ o,L[i]?=some o∧o.dst=some d:=by
 unfold dstAt at h
 rw [nth_eq] at h
 cases ho:L[i]? with
 | none=>rw [ho] at h;simp at h
 | some o=>rw [ho] at h;exact⟨o,rfl,h⟩
theorem dstAt_of {i:Nat} {o:Oper} (h:L[i]?=some o):dstAt L i=o.dst:=by unfold dstAt;rw [nth_eq,h]
theorem kindAt_of {i:Nat} {o:Oper} (h:L[i]?=some o):kindAt L i=kind o.op:=by unfold kindAt;rw [nth_eq,h]
theorem DrawOk.one (D:DrawOk L ac) {i j d:Nat} (hi:dstAt L i=some d) (hj:dstAt L j=some d):i=j:=by
 obtain⟨o,h1,h2⟩:=dstAt_some hi
 obtain⟨o',h3,h4⟩:=dstAt_some hj
 by_cases e:i=j
 ·exact e
 ·exact absurd h4 (D.slot i o j o' d h1 h3 h2 e).1
theorem look_put (t:List (Nat×AV)) (d:Option Nat) (v:AV) (x:Nat):look (put t d v) x=if d=some x then v else look t x:=by
 cases d with
 | none=>simp [put]
 | some d=>simp only [put,look_cons];by_cases e:d=x<;>simp [e]
theorem bound_ok {d:Option Nat} {k:Prop} (h:bound N d k):(∀ x,d=some x→x<N)∧k:=by
 unfold bound at h
 cases d with
 | none=>exact⟨by simp,h⟩
 | some d =>
  simp only at h
  cases hb:Nat.blt d N with
  | false=>rw [hb] at h;exact h.elim
  | true =>
   rw [hb] at h
   exact⟨fun x hx=>by injection hx with hx;subst hx;exact Nat.le_of_ble_eq_true hb,h⟩
theorem DInv.norm (D:DrawOk L ac) {Q:Ex→AS→Prop} {t0:List (Nat×AV)} {E:Nat→Prop} {w:World} {m:Mp} {tmps:Array Value} (n:Nat):∀ {pre rd t K},
  DInv P T call we me N L ac Q t0 E n pre rd t K w m tmps →
  ∃ n' pre' rd' t' K',DInv P T call we me N L ac Q t0 E (n'+1) pre' rd' t' K' w m tmps∧pickQ L ac pre' (upto (len L))=none:=by
 induction n with
 | zero=>intro pre rd t K h;exact h.rest.elim
 | succ n ih =>
  intro pre rd t K h
  have hr:=h.rest
  rw [adraw_succ] at hr
  unfold adrawS at hr
  cases hq:pickQ L ac pre (upto (len L)) with
  | none=>exact⟨n,pre,rd,t,K,h,hq⟩
  | some i =>
   rw [hq] at hr
   simp only [fN_eq] at hr
   unfold adrawQ at hr
   obtain⟨hiL,hav⟩:=pickQ_some hq
   obtain⟨hnot,hanc,hk2⟩:=avail_iff.1 hav
   have hil:i<L.length:=by rw [upto_mem,len_eq] at hiL;exact hiL
   cases ho:nth L i with
   | none=>rw [ho] at hr;exact hr.elim
   | some o =>
    rw [ho] at hr
    rw [nth_eq] at ho
    obtain⟨hb,hr⟩:=bound_ok hr
    rw [kindAt_of ho] at hk2
    have hk2:kind o.op≠2:=fun e=>by rw [e] at hk2;simp at hk2
    have hself:i ∉ ancOf ac i:=fun hm=>hnot (hanc i hm)
    have hget:∃ v rd',(∀ x∈rd,x∈rd')∧adraw T call N L ac n (i::pre) rd' (put t o.dst v) K Q∧(kind o.op=0→∀ K2,aopG T call L o t K2 (Same v K2) (fun _ _=>False)) ∧
      (kind o.op=1→(i,t,v)∈rd'∧aopG T call L o t K (Same v K) (fun _ _=>False)):=by
     split at hr
     ·rename_i hk
      obtain⟨v,h1,h2⟩:=aopG_pure hk t _ K _ hr
      exact⟨v,rd,fun x hx=>hx,splitG_ok h1,fun _=>h2,fun e=>by rw [hk] at e;simp at e⟩
     ·rename_i hk
      obtain⟨v,h1,h2⟩:=aopG_read hk t _ K _ hr
      exact⟨v,_,fun x hx=>List.mem_cons_of_mem _ hx,splitG_ok h1,fun e=>by rw [hk] at e;simp at e,fun _=>⟨by simp,h2⟩⟩
     ·exact hr.elim
    obtain⟨v,rd',hrd,h1,h2,h3⟩:=hget
    have hd:∀ x j,j∈pre→dstAt L j=some x→o.dst≠some x:=fun x j hj hjx e =>
     hnot (D.one (L:=L) (ac:=ac) (i:=j) (j:=i) hjx (by rw [dstAt_of ho];exact e)▸hj)
    refine ih (pre:=i::pre) (rd:=rd') (t:=put t o.dst v) (K:=K) ?_
    refine⟨fun j hj k hk=>?_,fun j hj=>?_,fun j hj=>by simp [h.sub j hj],fun j hj hk=>?_,h.tr,h.st,h.size,h1,fun d j hE hjd=>?_,h.old,fun d hd'=>?_,fun q hq hqE=>?_⟩
    ·cases List.mem_cons.1 hj with
     | inl e=>subst e;exact List.mem_cons_of_mem _ (hanc k hk)
     | inr e=>exact List.mem_cons_of_mem _ (h.anc j e k hk)
    ·cases List.mem_cons.1 hj with
     | inl e=>subst e;exact hil
     | inr e=>exact h.lt j e
    ·cases List.mem_cons.1 hj with
     | inl e=>subst e;rw [kindAt_of ho] at hk;exact absurd hk hk2
     | inr e=>exact h.loud j e hk
    ·rw [look_put,if_neg (hd d j (h.sub j hE) hjd)]
     exact h.done d j hE hjd
    ·rw [look_put,if_neg (fun e=>hd' i (by simp) (by rw [dstAt_of ho];exact e))]
     exact h.keep d (fun j hj=>hd' j (by simp [hj]))
    ·cases List.mem_cons.1 hq with
     | inr hq =>
      obtain⟨oq,tq,vq,q1,qk,q2,q3,q4,q5⟩:=h.quiet q hq hqE
      refine⟨oq,tq,vq,q1,qk,fun d hd'=>?_,fun d hd'=>⟨fun he=>?_,(q3 d hd').2⟩,q4,fun e=>⟨hrd _ (q5 e).1,(q5 e).2⟩⟩
      ·rw [look_put,if_neg (hd d q hq (by rw [dstAt_of q1];exact hd'))]
       exact q2 d hd'
      ·rw [(q3 d hd').1 he,look_put,if_neg ?_]
       intro e
       obtain⟨j,hj,hjd⟩:=he
       have:i=j:=D.one (i:=i) (j:=j) (by rw [dstAt_of ho];exact e) hjd
       exact hnot (this▸h.anc q hq j hj)
     | inl e =>
      subst e
      refine⟨o,t,v,ho,⟨hk2,hb⟩,fun d hd'=>by rw [look_put,if_pos hd'],fun d hd'=>⟨fun he=>?_,fun he=>?_⟩,h2,h3⟩
      ·rw [look_put,if_neg ?_]
       intro e
       obtain⟨j,hj,hjd⟩:=he
       have:q=j:=D.one (i:=q) (j:=j) (by rw [dstAt_of ho];exact e) hjd
       exact hself (this▸hj)
      ·refine h.keep d (fun j hj hjd=>?_)
       obtain⟨oj,j1,j2⟩:=dstAt_some hjd
       rcases (D.slot j oj q o d j1 ho j2 (fun e=>hnot (e▸hj))).2 hd' with hx|hx
       ·exact he j hx hjd
       ·exact hnot (h.anc j hj q hx)
def restrict (t:List (Nat×AV)):List Nat→List (Nat×AV)
 | []=>[]
 | d::r=>(d,look t d)::restrict t r
theorem look_restrict (t:List (Nat×AV)) (l:List Nat) (d:Nat):look (restrict t l) d=if d∈l then look t d else .junk:=by
 induction l with
 | nil=>simp [restrict,look]
 | cons a l ih =>
  simp only [restrict,look_cons,ih,List.mem_cons]
  by_cases e:a=d
  ·subst e;simp
  ·have e':¬ d=a:=fun x=>e x.symm
   simp [e,e']
theorem EnvOk.restrict {w:World} {m:Mp} {t:List (Nat×AV)} {tmps:Array Value} {l:List Nat} (h:∀ d∈l,V w m (look t d) (tmps.getD d undef)):EnvOk w m (restrict t l) tmps:=by
 intro d
 rw [look_restrict]
 by_cases e:d∈l
 ·rw [if_pos e];exact h d e
 ·rw [if_neg e];exact .junk _
theorem draw_run (hT:TabOk P T) (hcall:CallOk P call) {ops:Array Oper} (D:DrawOk ops.toList ac) {Q:Ex→AS→Prop} {t0:List (Nat×AV)} {E:Nat→Prop} {s:List Nat} (hs:Sch ops E s) :
  (∀ i,E i→∃ o,ops.toList[i]?=some o∧∀ j∈ancOf ac i,E j)→∀ {n pre rd t K w m} {a:Act},Mk bm we D0 w m a.defers →
  DInv P T call we me N ops.toList ac Q t0 E n pre rd t K w m a.tmps→wpOpsIn (FW ro) nn P ops (Rel bm N we me D0 Q) s a w:=by
 induction hs with
 | nil E hE =>
  intro hcl n pre rd t K w m a hd h
  simp only [wpOpsIn]
  obtain⟨n,pre,rd,t,K,h,hq⟩:=h.norm D
  have hl:loudN ops.toList ac pre (upto (len ops.toList))=[]:=by
   cases hl:loudN ops.toList ac pre (upto (len ops.toList)) with
   | nil=>rfl
   | cons i r =>
    exfalso
    have hm:i∈loudN ops.toList ac pre (upto (len ops.toList)):=by rw [hl];simp
    obtain⟨h1,h2⟩:=loudN_mem.1 hm
    rw [upto_mem,len_eq] at h1
    exact (avail_iff.1 h2).1 (h.sub i (hE i (by simpa using h1)))
  have hr:=h.rest
  rw [adraw_succ] at hr
  unfold adrawS at hr
  rw [hq,hl] at hr
  refine⟨h.size,m,⟨t,K⟩,hd,h.tr,h.st,fun d=>?_,hr⟩
  by_cases hex:∃ i,E i∧dstAt ops.toList i=some d
  ·obtain⟨i,h1,h2⟩:=hex
   exact h.done d i h1 h2
  ·have hno:∀ i,E i→dstAt ops.toList i≠some d:=fun i h1 h2=>hex ⟨i,h1,h2⟩
   rw [h.keep d (fun i hi=>?_)]
   ·exact h.old d hno
   ·have hil:=h.lt i hi
    exact hno i (hE i (by simpa using hil))
 | cons E i o rest hi hn he hs ih =>
  intro hcl n pre rd t K w m a hd h
  have hoL:ops.toList[i]?=some o:=by simpa using hi
  have hiL:i<ops.toList.length:=by rw [List.getElem?_eq_some_iff] at hoL;exact hoL.1
  obtain⟨n,pre,rd,t,K,h,hq⟩:=h.norm D
  have hanc:∀ j∈ancOf ac i,E j:=fun j hj=>by
   obtain⟨e,h1,h2⟩:=D.ancE i o j hoL hj
   rcases h2 with rfl|h2
   ·exact he j h1
   ·obtain⟨_,_,h3⟩:=hcl e (he e h1)
    exact h3 j h2
  have hcl':∀ j,(E j∨j=i)→∃ o,ops.toList[j]?=some o∧∀ k∈ancOf ac j,(E k∨k=i):=fun j hj=>by
   rcases hj with hj|rfl
   ·obtain⟨o,h1,h2⟩:=hcl j hj
    exact⟨o,h1,fun k hk=>.inl (h2 k hk)⟩
   ·exact⟨o,hoL,fun k hk=>.inl (hanc k hk)⟩
  have hclA:∀ e,E e→∀ j∈ancOf ac e,E j:=fun e he=>let ⟨_,_,h⟩:=hcl e he;h
  simp only [wpOpsIn,hi]
  have hslot:∀ d,d∈slotsG ops.toList o→∀ j,E j→dstAt ops.toList j=some d→j∈ancOf ac i:=fun d hd' j hj hjd=>by
   obtain⟨oj,j1,j2⟩:=dstAt_some hjd
   rcases (D.slot j oj i o d j1 hoL j2 (fun e=>hn (e▸hj))).2 hd' with hx|hx
   ·exact hx
   ·exact absurd (hclA j hj i hx) hn
  by_cases hk2:kind o.op=2
  ·
   have hinp:i ∉ pre:=fun hm=>hn (h.loud i hm (by rw [kindAt_of hoL];exact hk2))
   have hr:=h.rest
   rw [adraw_succ] at hr
   unfold adrawS at hr
   rw [hq] at hr
   have hm:i∈loudN ops.toList ac pre (upto (len ops.toList)):=loudN_mem.2 ⟨by rw [upto_mem,len_eq];exact hiL,avail_iff.2 ⟨hinp,fun j hj=>h.sub j (hanc j hj),by rw [kindAt_of hoL,hk2];rfl⟩⟩
   cases hl:loudN ops.toList ac pre (upto (len ops.toList)) with
   | nil=>rw [hl] at hm;simp at hm
   | cons a1 r =>
   rw [hl] at hr hm
   replace hr:=each_ok hr i hm
   simp only [fN_eq] at hr
   unfold adrawL at hr
   rw [nth_eq,hoL] at hr
   obtain⟨hb,hr⟩:=bound_ok hr
   have hwr:∀ d∈slotsG ops.toList o,V w m (look t d) (a.tmps.getD d undef):=fun d hd'=>by
    by_cases hex:∃ j,E j∧dstAt ops.toList j=some d
    ·obtain⟨j,h1,h2⟩:=hex
     exact h.done d j h1 h2
    ·rw [h.keep d (fun j hj hjd=>?_)]
     ·exact h.old d (fun j h1 h2=>hex ⟨j,h1,h2⟩)
     ·obtain⟨oj,j1,j2⟩:=dstAt_some hjd
      rcases (D.slot j oj i o d j1 hoL j2 (fun e=>hinp (e▸hj))).2 hd' with hx|hx
      ·exact hex ⟨j,hanc j hx,hjd⟩
      ·exact hinp (h.anc j hj i hx)
   have hnext:∀ (w':World) (m':Mp) (v:AV) (K':List ABlk) (u:Value),Tr w m w' m'→St w' m' (hp K')→V w' m' v u →
     splitG (isGd i ops.toList) v (fun v=>recheck T call ops.toList (ancOf ac i) K' (adraw T call N ops.toList ac n (i::pre) rd (put t o.dst v) K' Q) rd)→wpOpsIn (FW ro) nn P ops (Rel bm N we me D0 Q) rest (a.put o.dst u) w':=by
    intro w' m' v K' u h1 h2 h3 h4
    obtain⟨h5,h6⟩:=recheck_ok (splitG_ok h4)
    have hnod:∀ x j,j∈pre→dstAt ops.toList j=some x→o.dst≠some x:=fun x j hj hjx e =>
     hinp (D.one (i:=j) (j:=i) hjx (by rw [dstAt_of hoL];exact e)▸hj)
    have hput:∀ d,o.dst≠some d→(a.put o.dst u).tmps.getD d undef=a.tmps.getD d undef:=fun d hne=>by
     cases hd':o.dst with
     | none=>rfl
     | some x =>
      have:x≠d:=fun e=>hne (by rw [hd',e])
      simp only [Act.put,Array.getD_eq_getD_getElem?,Array.getElem?_setIfInBounds,if_neg this]
    refine ih hcl' (n:=n) (pre:=i::pre) (rd:=rd) (t:=put t o.dst v) (K:=K') (m:=m') (by rw [put_defers];exact hd.mono h1) ?_
    refine⟨fun j hj k hk=>?_,fun j hj=>?_,fun j hj=>?_,fun j hj hk=>?_,h.tr.trans h1,h2,by rw [put_size];exact h.size,h5,fun d j hE hjd=>?_,fun d hd'=>?_,fun d hd'=>?_,fun q hq hqE=>?_⟩
    ·cases List.mem_cons.1 hj with
     | inl e=>subst e;exact List.mem_cons_of_mem _ (h.sub k (hanc k hk))
     | inr e=>exact List.mem_cons_of_mem _ (h.anc j e k hk)
    ·cases List.mem_cons.1 hj with
     | inl e=>subst e;exact hiL
     | inr e=>exact h.lt j e
    ·rcases hj with hj|rfl
     ·simp [h.sub j hj]
     ·simp
    ·cases List.mem_cons.1 hj with
     | inl e=>exact .inr e
     | inr e=>exact .inl (h.loud j e hk)
    ·rcases hE with hE|rfl
     ·have hne:=hnod d j (h.sub j hE) hjd
      rw [look_put,if_neg hne,hput d hne]
      exact (h.done d j hE hjd).mono h1
     ·rw [dstAt_of hoL] at hjd
      rw [look_put,if_pos hjd]
      have hlt:d<a.tmps.size:=by rw [h.size];exact hb d hjd
      rw [hjd]
      simpa [Act.put,Array.getD,hlt] using h3
    ·have hne:o.dst≠some d:=fun e=>hd' i (.inr rfl) (by rw [dstAt_of hoL];exact e)
     rw [hput d hne]
     exact (h.old d (fun j hj=>hd' j (.inl hj))).mono h1
    ·rw [look_put,if_neg (fun e=>hd' i (by simp) (by rw [dstAt_of hoL];exact e))]
     exact h.keep d (fun j hj=>hd' j (by simp [hj]))
    ·rcases List.mem_cons.1 hq with rfl|hq
     ·exact absurd (.inr rfl) hqE
     ·obtain⟨oq,tq,vq,q1,qk,q2,q3,q4,q5⟩:=h.quiet q hq (fun e=>hqE (.inl e))
      refine⟨oq,tq,vq,q1,qk,fun d hd'=>?_,fun d hd'=>⟨fun he'=>?_,(q3 d hd').2⟩,q4,fun e=>?_⟩
      ·rw [look_put,if_neg (hnod d q hq (by rw [dstAt_of q1];exact hd'))]
       exact q2 d hd'
      ·rw [(q3 d hd').1 he',look_put,if_neg ?_]
       intro e
       obtain⟨j,hj,hjd⟩:=he'
       have:i=j:=D.one (i:=i) (j:=j) (by rw [dstAt_of hoL];exact e) hjd
       exact hinp (this▸h.anc q hq j hj)
      ·obtain⟨hin,_⟩:=q5 e
       refine⟨hin,?_⟩
       obtain⟨o2,h7,h8⟩:=h6 q tq vq hin (fun hm=>hqE (.inl (hanc q hm)))
       rw [q1] at h7
       injection h7 with h7
       subst h7
       obtain⟨v',h9,h10⟩:=aopG_read e tq _ K' _ h8
       subst h9
       exact h10
   rcases aopG_cases hwr hr with ⟨hw,hr⟩|⟨hw,hr⟩
   ·rw [if_pos hw]
    refine⟨fun _ _=>trivial,?_⟩
    rw [aop_semAt hr]
    rw [aop_congr (t':=restrict t (slotsG ops.toList o)) (fun d hd'=>by rw [look_restrict,if_pos (show d∈slotsG ops.toList o from List.mem_append_left _ hd')])] at hr
    refine aop_ok hT hcall h.st (EnvOk.restrict hwr) (fun w' m' v K' u h1 h2 h3 h4=>?_) (fun w' m' v K' u h1 h2 h3 h4=>?_) hr
    ·exact hnext w' m' v K' u h1 h2 h3 h4
    ·exact⟨h.size,m',⟨[],K'⟩,v,u,hd.mono h1,rfl,h.tr.trans h1,h2,fun _=>.junk _,h3,h4⟩
   ·rw [if_neg (by simp [hw])]
    exact⟨fun _ _=>trivial,hnext w m (.tup []) K undef (Tr.refl w m) h.st (.tup [] #[] rfl fun j hj=>by simp at hj) hr⟩
  ·
   have hip:i∈pre:=by
    by_cases hm:i∈pre
    ·exact hm
    ·exfalso
     have h1:=pickQ_none hq i (by rw [upto_mem,len_eq];exact hiL)
     rw [avail_iff.2 ⟨hm,fun j hj=>h.sub j (hanc j hj),by
      rw [kindAt_of hoL]
      cases hb:Nat.beq (kind o.op) 2 with
      | true=>exact absurd (Nat.eq_of_beq_eq_true hb) hk2
      | false=>rfl⟩] at h1
     simp at h1
   obtain⟨oq,tq,vq,q1,qk,q2,q3,q4,q5⟩:=h.quiet i hip hn
   rw [hoL] at q1
   injection q1 with q1
   subst q1
   have hkk:kind o.op=0∨kind o.op=1∨kind o.op=2:=by
    unfold kind
    split<;>first|simp|(split<;>first|simp|(split<;>simp))
   have ha:aopG T call ops.toList o tq K (Same vq K) (fun _ _=>False):=by
    rcases hkk with e|e|e
    ·exact q4 e K
    ·exact (q5 e).2
    ·exact absurd e hk2
   have hwr:∀ d∈slotsG ops.toList o,V w m (look tq d) (a.tmps.getD d undef):=fun d hd'=>by
    by_cases hex:∃ j∈ancOf ac i,dstAt ops.toList j=some d
    ·rw [(q3 d hd').1 hex]
     obtain⟨j,h1,h2⟩:=hex
     exact h.done d j (hanc j h1) h2
    ·rw [(q3 d hd').2 (fun j h1 h2=>hex ⟨j,h1,h2⟩)]
     exact h.old d (fun j h1 h2=>hex ⟨j,hslot d hd' j h1 h2,h2⟩)
   have hb:∀ x,o.dst=some x→x<a.tmps.size:=fun x hx=>by rw [h.size];exact qk.2 x hx
   have hnext:∀ (w':World) (m':Mp) (v:AV) (K':List ABlk) (u:Value),Tr w m w' m'→St w' m' (hp K')→V w' m' v u→Same vq K v K'→wpOpsIn (FW ro) nn P ops (Rel bm N we me D0 Q) rest (a.put o.dst u) w':=by
    intro w' m' v K' u h1 h2 h3 h4
    obtain⟨rfl,rfl⟩:=h4
    have hput:∀ d,o.dst≠some d→(a.put o.dst u).tmps.getD d undef=a.tmps.getD d undef:=fun d hne=>by
     cases hd':o.dst with
     | none=>rfl
     | some x =>
      have:x≠d:=fun e=>hne (by rw [hd',e])
      simp only [Act.put,Array.getD_eq_getD_getElem?,Array.getElem?_setIfInBounds,if_neg this]
    refine ih hcl' (n:=n+1) (pre:=pre) (rd:=rd) (t:=t) (K:=K') (m:=m') (by rw [put_defers];exact hd.mono h1) ?_
    refine⟨h.anc,h.lt,fun j hj=>?_,fun j hj hk=>.inl (h.loud j hj hk),h.tr.trans h1,h2,by rw [put_size];exact h.size,h.rest,fun d j hE hjd=>?_,fun d hd'=>?_,h.keep,fun q hq hqE=>h.quiet q hq (fun e=>hqE (.inl e))⟩
    ·rcases hj with hj|rfl
     ·exact h.sub j hj
     ·exact hip
    ·rcases hE with hE|rfl
     ·by_cases hne:o.dst=some d
      ·have:j=i:=D.one hjd (by rw [dstAt_of hoL];exact hne)
       exact absurd (this▸hE) hn
      ·rw [hput d hne]
       exact (h.done d j hE hjd).mono h1
     ·rw [dstAt_of hoL] at hjd
      rw [q2 d hjd]
      have hlt:d<a.tmps.size:=hb d hjd
      rw [hjd]
      simpa [Act.put,Array.getD,hlt] using h3
    ·have hne:o.dst≠some d:=fun e=>hd' i (.inr rfl) (by rw [dstAt_of hoL];exact e)
     rw [hput d hne]
     exact (h.old d (fun j hj=>hd' j (.inl hj))).mono h1
   rcases aopG_cases hwr ha with ⟨hw,ha⟩|⟨hw,ha⟩
   ·rw [if_pos hw]
    refine⟨fun _ _=>trivial,?_⟩
    rw [aop_semAt ha]
    rw [aop_congr (t':=restrict tq (slotsG ops.toList o)) (fun d hd'=>by rw [look_restrict,if_pos (show d∈slotsG ops.toList o from List.mem_append_left _ hd')])] at ha
    exact aop_ok hT hcall h.st (EnvOk.restrict hwr) (fun w' m' v K' u h1 h2 h3 h4=>hnext w' m' v K' u h1 h2 h3 h4) (fun w' m' v K' u h1 h2 h3 h4=>h4.elim) ha
   ·rw [if_neg (by simp [hw])]
    exact⟨fun _ _=>trivial,hnext w m (.tup []) K undef (Tr.refl w m) h.st (.tup [] #[] rfl fun j hj=>by simp at hj) ha⟩
theorem adraw_ok (hT:TabOk P T) (hcall:CallOk P call) (hmix:P.follows .mixedOrders=true) {id:Nat} {ops:Array Oper} {Q:Ex→AS→Prop} {t:List (Nat×AV)} {K:List ABlk} (hB:drawB ops.toList=true) {n:Nat}
  (h:adraw T call N ops.toList (ancs ops.toList []) n [] [] t K Q) (w:World) (m:Mp) (a:Act)
  (hTr:Tr we me w m) (hS:St w m (hp K)) (hE:EnvOk w m t a.tmps) (hN:a.tmps.size=N) (hd:Mk bm we D0 w m a.defers):(Code.region id ops true).wpIn (FW ro) nn P (Rel bm N we me D0 Q) a w:=by
 have D:=drawB_ok hB
 refine wpIn_region_draw fun k=>?_
 rw [hmix]
 have hs:=schedule_sch ops (fun i o ho=>D.edge i o (by simpa using ho)) k
 refine draw_run hT hcall D (t0:=t) hs (fun i hi=>hi.elim) (n:=n) (pre:=[]) (rd:=[]) (t:=t) (K:=K) (m:=m) (hd.mono (Tr.drew w m)) ?_
 refine⟨fun i hi=>by simp at hi,fun i hi=>by simp at hi,fun i hi=>hi.elim,fun i hi=>by simp at hi,hTr.trans (Tr.drew w m),hS.drew,hN,h,fun d i hi=>hi.elim,fun d _=>(hE d).mono (Tr.drew w m),fun d _=>rfl,fun q hq=>by simp at hq⟩
end
end Go.AE
namespace Go.AE
section
variable {P:Program} {T:Tab} {call:ACall} {we:World} {me:Mp} {N kb:Nat} {D0:List Deferred} {bm:Bool} {ro:Option Nat} {nn:Nat}
theorem FW.room (n:Nat):(FW ro).room n:=fun _ h=>by simp [FW,Fence.wide] at h
def AtHead (P:Program) (ro:Option Nat) (c:Code) (Q:Exit→Act→World→Prop) (a:Act) (w:World):Prop :=
 ∀ (b:Frame) (k:List Item) (cs:List Frame),b.roundOf=ro→∃ e a' w',Q e a' w'∧ArrivesIn (Machine.fenced P (FW ro)) P (lone (b.atR a (.code c::.inLoop c::k)) cs w) b k cs e a' w'
theorem AtHead.step {c:Code} {Q:Exit→Act→World→Prop} {a:Act} {w:World} (h:c.wpIn (FW ro) nn P (fun e a' w'=>match e with | .normal=>AtHead P ro c Q a' w'|e=>Q e a' w') a w):AtHead P ro c Q a w:=by
 intro b k cs hro
 obtain⟨e,a₁,w₁,hq,harr⟩:=h b (.inLoop c::k) cs hro trivial (FW.room _)
 cases e with
 | normal =>
  obtain⟨e₂,a₂,w₂,hq₂,harr₂⟩:=hq b k cs hro
  exact⟨e₂,a₂,w₂,hq₂,.of_steps (StepsIn.trans harr (.one (fenced_calm (n:=0) trivial (FW.room _) rfl) stepR_inLoop)) harr₂⟩
 | exit id=>exact⟨_,a₁,w₁,hq,.pass (x:=.inLoop c) rfl (fun _ _=>.inl (by simp)) harr⟩
 | goto l=>exact⟨_,a₁,w₁,hq,.pass (x:=.inLoop c) rfl (fun _ _=>.inl (by simp)) harr⟩
 | ret=>exact⟨_,a₁,w₁,hq,.pass (x:=.inLoop c) rfl (fun _ _=>.inl (by simp)) harr⟩
 | panic ch=>exact⟨_,a₁,w₁,hq,.pass (x:=.inLoop c) rfl (fun _ _=>.inl (by simp)) harr⟩
 | outgrown=>exact⟨_,a₁,w₁,hq,.pass (x:=.inLoop c) rfl (fun _ _=>.inl (by simp)) harr⟩
theorem AtHead.loop {c:Code} {Q:Exit→Act→World→Prop} {a:Act} {w:World} (h:AtHead P ro c Q a w):(Code.loop c).wpIn (FW ro) nn P Q a w:=by
 intro b k cs hro hb hr
 obtain⟨e,a',w',hq,harr⟩:=h b k cs hro
 exact⟨e,a',w',hq,.of_steps (.one (fenced_calm hb hr rfl) stepR_loop) harr⟩
theorem stepR_scope {P:Program} {b:Frame} {a:Act} {k:List Item} {cs:List Frame} {w:World} {c:Code}:step P (lone (b.atR a (.code (.scope c)::k)) cs w)=.next (lone (b.atR a (.code c::.inScope c::k)) cs w) :=
 step_lone_go (by simp [stepG,stepG.exec,Frame.atR])
theorem stepR_inScope {P:Program} {b:Frame} {a:Act} {k:List Item} {cs:List Frame} {w:World} {c:Code}:step P (lone (b.atR a (.inScope c::k)) cs w)=.next (lone (b.atR a k) cs w) :=
 step_lone_go (by simp [stepG,stepG.exec,Frame.atR])
theorem wpIn_scope {c:Code} {Q:Exit→Act→World→Prop} {a:Act} {w:World} (h:c.wpIn (FW ro) nn P Q a w) (hng:∀ l a w,¬ Q (.goto l) a w):(Code.scope c).wpIn (FW ro) nn P Q a w:=by
 intro b k cs hro hb hr
 have h0:(lone (b.atR a (.code (.scope c)::k)) cs w).fenced P (FW ro):=fenced_calm hb hr rfl
 obtain⟨e,a₁,w₁,hq,harr⟩:=h b (.inScope c::k) cs hro hb hr
 cases e with
 | normal=>exact⟨.normal,a₁,w₁,hq,.head h0 stepR_scope (StepsIn.trans harr (.one (fenced_calm hb hr rfl) stepR_inScope))⟩
 | exit id =>
  have hx:exitTo id (.inScope c::k)=exitTo id k:=by simp [exitTo]
  exact⟨.exit id,a₁,w₁,hq,fun k' hk=>.head h0 stepR_scope (harr.1 k' (by rw [hx];exact hk)),
   fun hr' hk=>let ⟨k₁,h1,h2⟩:=harr.2 hr' (by rw [hx];exact hk);⟨k₁,h1,.head h0 stepR_scope h2⟩⟩
 | goto l=>exact (hng _ _ _ hq).elim
 | ret=>exact⟨_,a₁,w₁,hq,.of_steps (.one h0 stepR_scope) harr⟩
 | panic ch=>exact⟨_,a₁,w₁,hq,.of_steps (.one h0 stepR_scope) harr⟩
 | outgrown=>exact⟨_,a₁,w₁,hq,.of_steps (.one h0 stepR_scope) harr⟩
theorem mem_cons (l:List Nat) (a n:Nat):mem (a::l) n=(Nat.beq a n || mem l n):=by
 simp only [mem]
 cases Nat.beq a n<;>rfl
theorem fE_ok {t:List (Nat×AV)} {seen:List Nat} {k:List (Nat×AV)→Prop} (h:fE seen t k):∃ t',k t'∧∀ d,mem seen d=false→look t' d=look t d:=by
 induction t generalizing seen k with
 | nil=>exact⟨[],h,fun _ _=>rfl⟩
 | cons x r ih =>
  obtain⟨d,v⟩:=x
  rw [fE_cons] at h
  split at h
  ·rename_i hm
   obtain⟨t',h1,h2⟩:=ih h
   refine⟨t',h1,fun j hj=>?_⟩
   rw [look_cons,h2 j hj]
   by_cases e:d=j
   ·subst e;rw [hm] at hj;simp at hj
   ·rw [if_neg e]
  ·rw [fV_eq] at h
   obtain⟨t',h1,h2⟩:=ih h
   refine⟨_,h1,fun j hj=>?_⟩
   rw [look_cons,look_cons]
   by_cases e:d=j
   ·rw [if_pos e,if_pos e]
   ·rw [if_neg e,if_neg e]
    refine h2 j ?_
    rw [mem_cons,hj,Bool.or_false]
    exact Bool.eq_false_iff.2 fun hb=>e (Nat.eq_of_beq_eq_true hb)
theorem Tr.allocN {w:World} {m:Mp} (hI:∀ b,m.I b→b<w.heap.size) (o:Obj):Tr w m (w.alloc o) m where
 os:=rfl
 tape:=rfl
 output:=rfl
 size:=by simp
 out:=fun b hb _=>heap_alloc w o b hb
 imm:=fun _ h=>h
 same:=fun b hb=>heap_alloc w o b (hI b hb)
 newI:=fun _ h=>.inl h
 step:=fun _=>Inf.step_refl _ _ rfl
 newρ:=fun _ hr=>.inl ⟨hr,rfl⟩
theorem St.allocN {w:World} {m:Mp} {H:Nat→ABlk} (h:St w m H) (o:Obj):St (w.alloc o) m H:=by
 have hT:=Tr.allocN h.Ilt o
 refine⟨h.inj,h.notI,fun r hr=>by have:=h.lt r hr;simp;omega,fun b hb=>by have:=h.Ilt b hb;simp;omega,h.gl.mono hT.imm hT.same,fun r=>?_⟩
 by_cases hl:(m.L r).isLive
 ·exact (h.blk r).mono (heap_alloc w o _ (h.lt r hl)) (fun _ _ hv=>hv.mono hT)
 ·exact (h.blk r).nolive hl
theorem Mk.lt {w:World} {m:Mp} (hD0:∀ d∈D0,∀ D,d.target≠.collected D) {ds:List Deferred} (h:Mk bm we D0 w m ds):∀ d∈ds,∀ D,d.target=.collected D→D<w.heap.size:=by
 induction h with
 | base=>exact fun d hd D e=>absurd e (hD0 d hd D)
 | mark hb D ds h1 h2 h3 h4 h5 _ ih =>
  intro d hd D' e
  rcases List.mem_cons.1 hd with rfl|hd
  ·injection e with e
   subst e
   exact (Array.getElem?_eq_some_iff.1 h2).1
  ·exact ih d hd D' e
theorem lp_stands {w w':World} {m m':Mp} (t:Tr w m w' m') {r:Nat} (h:m.L r=.live 0 1 1 1) (h':m'.L r=.live 0 1 1 1):m'.ρ r=m.ρ r:=by
 have hs:=t.step r
 rw [h,h'] at hs
 simp only [Inf.step] at hs
 rcases hs with hs|⟨_,he⟩|⟨v',n',sz',cap',hs,hlt⟩
 ·cases hs
 ·exact he
 ·simp only [Inf.live.injEq] at hs;omega
theorem endRF_ok {s:AS} {Q:Ex→AS→Prop} {w w2:World} {m m2:Mp} {a:Act} {l D:Nat} {e:Ending} {w':World} (hT12:Tr w m w2 m2) (hL2:m2.L (len s.K)=.live 0 1 1 1) (hρ2:m2.ρ (len s.K)=l)
  (hTr:Tr we me w m) (hE:EnvOk w m s.t a.tmps) (hN:a.tmps.size=N) (hMk2:Mk bm we D0 w2 m2 ({ target:=.collected D,args:=#[] }::a.defers))
  (hR:Post w2 m2 (endRF s Q (len s.K)) e w'):rangePost (FW ro) nn P l (Rel bm N we me D0 Q) { a with defers:=[{ target:=.collected D,args:=#[] }]++a.defers } e w':=by
 cases e with
 | returned v =>
  obtain⟨m',av,K',h1,h2,h3,h4⟩:=hR
  simp only [endRF] at h4
  split at h4
  case h_2=>exact h4.elim
  rename_i st env' N' ps' as' bd' hnth
  rw [fL_eq] at h4
  have hb:=h2.blk (len s.K)
  rw [hp_nth hnth] at hb
  obtain⟨hl,p,fn',tmps',D,hh,hp',hsz',hV'⟩:=hb
  have hρ':m'.ρ (len s.K)=l:=(lp_stands h1 hL2 hl).trans hρ2
  have hlive:(m'.L (len s.K)).isLive:=by rw [hl];trivial
  obtain⟨o,ho⟩:∃ o:Obj,o=.loop { state:=.exhausted,pending:=p,fn:=fn',tmps:=tmps',params:=ps',assign:=as',body:=bd',defers:=D }:=⟨_,rfl⟩
  have hT3:=Tr.putObj h2 (len s.K) hlive o
  have hS3:=h2.putObj (len s.K) hlive o (.lp .over env' N' ps' as' bd') ⟨hl,p,fn',tmps',D,by rw [World.putObj_heap_same (h2.lt _ hlive),ho];rfl,trivial,hsz',fun d=>(hV' d).mono hT3⟩
  rw [← hp_set K' (len s.K) _ _ hnth,hρ'] at hS3
  rw [hρ'] at hT3
  have hrun:st.state≠.busy→(Instr.endLoop l).run P w'=.ok p (w'.putObj l o):=fun hst=>by
   rw [ho];rw [hρ'] at hh;exact run_endLoop hh hst
  have hTT:Tr we me (w'.putObj l o) m':=(hTr.trans hT12).trans (h1.trans hT3)
  have hEE:EnvOk (w'.putObj l o) m' s.t a.tmps:=(hE.mono hT12).mono (h1.trans hT3)
  have hMM:=hMk2.mono (h1.trans hT3)
  cases st with
  | ready =>
   have hp'':p=none:=hp'
   subst hp''
   exact⟨none,_,hrun (by simp [LSt.state]),hN,m',⟨s.t,_⟩,hMM,hTT,hS3,hEE,h4⟩
  | ret =>
   have hp'':p=some .ret:=hp'
   subst hp''
   exact⟨some .ret,_,hrun (by simp [LSt.state]),wpIn_ret ⟨hN,m',⟨s.t,_⟩,hMM,hTT,hS3,hEE,h4⟩⟩
  | exit n =>
   have hp'':p=some (.exit n):=hp'
   subst hp''
   exact⟨some (.exit n),_,hrun (by simp [LSt.state]),wpIn_exit ⟨hN,m',⟨s.t,_⟩,hMM,hTT,hS3,hEE,h4⟩⟩
  | busy=>exact h4.elim
  | over=>exact h4.elim
 | panicked ch =>
  obtain⟨m',av,u,K',rfl,h1,h2,h3,h4⟩:=hR
  exact⟨hN,m',⟨s.t,K'⟩,av,u,hMk2.mono h1,rfl,(hTr.trans hT12).trans h1,h2,(hE.mono hT12).mono h1,h3,h4⟩
 | outgrown=>exact hR.elim
theorem rangeF_ok (hT:TabOk P T) (hcall:CallOk P call) (hmix:P.follows .mixedOrders=true) (hD0:∀ d∈D0,∀ D,d.target≠.collected D) (hro:ro=none) (hbm:bm=true)
  (g:Operand) (ps:Array Tmp) (assign body:Code) (s:AS) (Q:Ex→AS→Prop) {x y:AW} (h:wRangeF call N g ps assign body x y s Q)
  (w:World) (m:Mp) (a:Act) (hTr:Tr we me w m) (hS:St w m (hp s.K)) (hE:EnvOk w m s.t a.tmps) (hN:a.tmps.size=N) (hd:Mk bm we D0 w m a.defers) :
  (Code.rangeFunc g ps assign body).wpIn (FW ro) nn P (Rel bm N we me D0 Q) a w:=by
 subst hro
 unfold wRangeF at h
 split at h
 case h_1=>exact h.elim
 obtain⟨env,henv,hE'⟩:=fE_ok h
 rw [fN_eq,fL_eq] at henv
 refine wpIn_rangeFunc ?_
 intro fn _
 obtain⟨rec,hrec⟩:∃ rec:Loop,rec={ state:=.ready,pending:=none,fn,tmps:=a.tmps,params:=ps,assign,body,defers:=w.heap.size }:=⟨_,rfl⟩
 have hT1:=Tr.allocN hS.Ilt (.deferred (some []))
 have hS1:=hS.allocN (.deferred (some []))
 have hr0:hp s.K (len s.K)=.absent:=by
  simp only [hp,nth_eq]
  rw [List.getElem?_eq_none (by rw [len_eq];exact Nat.le_refl _)]
 have hL0:m.L (len s.K)=.absent:=hS.absent hr0
 have hT2:=Tr.alloc (w.alloc (.deferred (some []))) m (.loop rec) (len s.K) (.live 0 1 1 1) hL0 hS1.Ilt
 have hT12:=hT1.trans hT2
 have hlp:BlkOk ((w.alloc (.deferred (some []))).alloc (.loop rec)) (m.set (len s.K) (w.alloc (.deferred (some []))).heap.size (.live 0 1 1 1)) (.live 0 1 1 1) (w.alloc (.deferred (some []))).heap.size
   (.lp .ready env N ps assign body) :=
  ⟨rfl,none,fn,a.tmps,w.heap.size,by rw [World.alloc_heap_new,hrec];rfl,rfl,hN,fun d=>by rw [hE' d rfl];exact (hE d).mono hT12⟩
 have hS2:=hS1.alloc (.loop rec) (len s.K) (.live 0 1 1 1) hr0 _ hlp
 rw [← hp_snoc] at hS2
 have hsz:(w.alloc (.deferred (some []))).heap.size=w.heap.size+1:=by simp
 rw [hsz] at hS2 hT2 hT12
 obtain⟨w2,hw2⟩:∃ w2,(w.alloc (.deferred (some []))).alloc (.loop rec)=w2:=⟨_,rfl⟩
 obtain⟨m2,hm2⟩:∃ m2,m.set (len s.K) (w.heap.size+1) (.live 0 1 1 1)=m2:=⟨_,rfl⟩
 rw [hw2,hm2] at hS2 hT12
 have hL2:m2.L (len s.K)=.live 0 1 1 1:=by rw [← hm2];simp [Mp.set]
 have hρ2:m2.ρ (len s.K)=w.heap.size+1:=by rw [← hm2];simp [Mp.set]
 have hD2:w2.heap[w.heap.size]?=some (.deferred (some [])):=by
  rw [← hw2]
  exact (heap_alloc _ _ _ (by simp)).trans (World.alloc_heap_new w _)
 have hMk2:Mk bm we D0 w2 m2 ({ target:=.collected w.heap.size,args:=#[] }::a.defers):=by
  refine .mark hbm _ _ hTr.size hD2 (fun hI=>?_) (fun r hr e=>?_) (fun d hd' e=>?_) (hd.mono hT12)
  ·rw [← hm2] at hI;have:=hS.Ilt _ hI;omega
  ·rw [← hm2] at hr e
   simp only [Mp.set] at hr e
   by_cases er:r=len s.K
   ·simp [er] at e
   ·simp only [er,if_false] at hr e;have:=hS.lt r hr;omega
  ·have:=hd.lt hD0 d hd' _ e;omega
 have hyl:V w2 m2 (.yld (len s.K)) (.func (.yield (w.heap.size+1)) #[] #[]):=by rw [← hρ2];exact .yld _ _ _ hL2
 have key:∀ (f:FuncId) (A B:Array Value) (args:List AV),a.eval g=.func (.func f) A B→VL w2 m2 args (A++#[.func (.yield (w.heap.size+1)) #[] #[]]++B) →
   callF call f args (snoc s.K (.lp .ready env N ps assign body)) (endRF s Q (len s.K)) →
   ∃ (l:Nat) (mark:List Deferred) (w₁:World) (d:Deferred) (w₁':World) (f:FuncId) (args:Array Value) (w₂:World),
   (Instr.enterLoop fn a.tmps ps assign body (FW none).round).run P w=.ok (l,mark) w₁ ∧
   (resolve a.eval (rangeCall g l) 0).run P w₁=.ok d w₁' ∧
   (∀ f',Target.leads P w₁' d.target d.args=some f'→(FW none).fn f') ∧
   (invoke d.target d.args).run P w₁'=.ok (.enter f args) w₂ ∧
   ((FW none).depth.isSome=true→1≤nn) ∧
   CallsIn (FW none) (nn - 1) P f args w₂ (rangePost (FW none) nn P l (Rel bm N we me D0 Q) { a with defers:=mark++a.defers }):=by
  intro f A B args hg hV hc
  have hent:=(callF_ok hcall hc).1
  have hcalls:=(callF_ok hcall hc).2 w2 m2 _ hS2 hV
  have hpost:∀ e w',Post w2 m2 (endRF s Q (len s.K)) e w'→rangePost (FW none) nn P (w.heap.size+1) (Rel bm N we me D0 Q) { a with defers:=[{ target:=.collected w.heap.size,args:=#[] }]++a.defers } e w':=by
   intro e w' hR
   exact endRF_ok hT12 hL2 hρ2 hTr hE hN hMk2 hR
  have hcc:CallsIn (FW none) (nn - 1) P f (A++#[.func (.yield (w.heap.size+1)) #[] #[]]++B) w2 (rangePost (FW none) nn P (w.heap.size+1) (Rel bm N we me D0 Q) { a with defers:=[{ target:=.collected w.heap.size,args:=#[] }]++a.defers }) :=
   FW.calls (hcalls.mono hpost)
  have h1:(Instr.enterLoop fn a.tmps ps assign body (FW none).round).run P w=.ok (w.heap.size+1,[{ target:=.collected w.heap.size,args:=#[] }]) w2:=by
   rw [← hw2,hrec];exact run_enterLoop_outer _ _ _ _ _
  have h2:(resolve a.eval (rangeCall g (w.heap.size+1)) 0).run P w2=.ok { target:=.fn (.func f) B,args:=A++#[.func (.yield (w.heap.size+1)) #[] #[]] } w2:=by
   simp only [resolve,hg]
   simp [go_sem]
  have h3:(invoke (.fn (.func f) B) (A++#[.func (.yield (w.heap.size+1)) #[] #[]])).run P w2=.ok (.enter f (A++#[.func (.yield (w.heap.size+1)) #[] #[]]++B)) w2:=by
   simp [invoke,callFunc_run hent]
  exact⟨_,_,w2,_,w2,f,_,w2,h1,h2,fun _ _=>trivial,h3,FW.depth,hcc⟩
 have hg:=(hE.ev g).mono hT12
 generalize hgv:a.eval g=ug at hg
 generalize ev s.t g=ag at henv hg
 cases hg with
 | fn f first cap A B hA hB h1 h2 =>
  simp only [fVL_eq,catL_eq] at henv
  refine key f A B _ hgv ?_ henv
  have hc:VL w2 m2 [.yld (len s.K)] #[.func (.yield (w.heap.size+1)) #[] #[]]:=⟨rfl,fun j hj hj'=>by
   have:j=0:=by simpa using hj
   subst this;exact hyl⟩
  have:=(VL.append ⟨hA,h1⟩ hc).append ⟨hB,h2⟩
  simpa using this
 | p v u hv =>
  cases hv with
  | fn f =>
   refine key f #[] #[] _ hgv ?_ henv
   exact⟨rfl,fun j hj hj'=>by
    have:j=0:=by simpa using hj
    subst this;exact hyl⟩
  | _=>exact henv.elim
 | _=>exact henv.elim
theorem awp_ok (hT:TabOk P T) (hcall:CallOk P call) (hmix:P.follows .mixedOrders=true) (hkb:∀ r,kb≤r→me.L r=.absent) (hD0:∀ d∈D0,∀ D,d.target≠.collected D) (c:Code):∀ (s:AS) (Q:Ex→AS→Prop),awp T call kb N c s Q →
  ∀ (w:World) (m:Mp) (a:Act),Tr we me w m→St w m (hp s.K)→EnvOk w m s.t a.tmps→a.tmps.size=N→Mk bm we D0 w m a.defers→((ro=none∧bm=true)∨noRF c=true)→c.wpIn (FW ro) nn P (Rel bm N we me D0 Q) a w:=by
 induction c with
 | skip=>intro s Q h w m a hTr hS hE hN hd hrf;exact wpIn_skip ⟨hN,m,s,hd,hTr,hS,hE,h⟩
 | ret=>intro s Q h w m a hTr hS hE hN hd hrf;exact wpIn_ret ⟨hN,m,s,hd,hTr,hS,hE,h⟩
 | exit n=>intro s Q h w m a hTr hS hE hN hd hrf;exact wpIn_exit ⟨hN,m,s,hd,hTr,hS,hE,h⟩
 | region id ops draw =>
  intro s Q h w m a hTr hS hE hN hd hrf
  cases draw with
  | true =>
   replace h:wRegion T call N id ops true s Q:=h
   simp only [wRegion,ancsK_eq] at h
   split at h
   case h_2=>exact h.elim
   rename_i hB
   exact adraw_ok hT hcall hmix hB h w m a hTr hS hE hN hd
  | false=>exact wpIn_region_list (aops_ok hT hcall ops.toList _ _ h w m a hTr hS hE hN hd)
 | seq x y ihx ihy =>
  intro s Q h w m a hTr hS hE hN hd hrf
  replace h:awp T call kb N x s (wSeqK (awp T call kb N y) Q):=h
  refine wpIn_seq (wpIn_mono (ihx s _ h w m a hTr hS hE hN hd (hrf.imp id fun h=>by simp only [noRF,Bool.and_eq_true] at h;exact h.1)) (fun e a' w' hR=>?_))
  cases e with
  | normal =>
   obtain⟨h1,m',s',h2,h3,h4,h5,h6⟩:=hR
   exact ihy s' Q h6 w' m' a' h3 h4 h5 h1 h2 (hrf.imp id fun h=>by simp only [noRF,Bool.and_eq_true] at h;exact h.2)
  | exit n=>exact hR
  | ret=>exact hR
  | panic ch=>exact hR
  | goto l=>exact hR
  | outgrown=>exact hR
 | cond cc x y ihx ihy =>
  intro s Q h w m a hTr hS hE hN hd hrf
  cases cc with
  | tmp i =>
   replace h:wCond (.tmp i) x y (awp T call kb N x) (awp T call kb N y) s Q:=h
   simp only [wCond] at h
   split at h
   case h_2=>exact h.elim
   rename_i q hq
   have hb:=hE.bool hq
   have hev:a.eval (.tmp i)=.bool q:=by simp [Act.eval,Array.getD_eq_getD_getElem?,hb]
   have hE':=hE.know hq
   refine wpIn_cond hev ?_
   cases q with
   | true=>exact ihx _ Q h w m a hTr hS hE' hN hd (hrf.imp id fun h=>by simp only [noRF,Bool.and_eq_true] at h;exact h.1)
   | false=>exact ihy _ Q h w m a hTr hS hE' hN hd (hrf.imp id fun h=>by simp only [noRF,Bool.and_eq_true] at h;exact h.2)
  | const v =>
   replace h:wCond (.const v) x y (awp T call kb N x) (awp T call kb N y) s Q:=h
   simp only [wCond] at h
   split at h
   ·rename_i x i hx;cases hx
   ·rename_i q hq
    injection hq with hq
    subst hq
    refine wpIn_cond (t:=q) rfl ?_
    cases q with
    | true=>exact ihx _ Q h w m a hTr hS hE hN hd (hrf.imp id fun h=>by simp only [noRF,Bool.and_eq_true] at h;exact h.1)
    | false=>exact ihy _ Q h w m a hTr hS hE hN hd (hrf.imp id fun h=>by simp only [noRF,Bool.and_eq_true] at h;exact h.2)
   ·exact h.elim
  | global g=>exact h.elim
  | func f=>exact h.elim
 | block id x ih =>
  intro s Q h w m a hTr hS hE hN hd hrf
  refine wpIn_block (wpIn_mono (ih s _ h w m a hTr hS hE hN hd hrf) (fun e a' w' hR=>?_))
  cases e with
  | exit n =>
   obtain⟨h1,m',s',h2,h3,h4,h5,h6⟩:=hR
   simp only [Exit.inBlock]
   simp only [contB] at h6
   by_cases e:n=id
   ·subst e
    rw [if_pos rfl]
    rw [show Nat.beq n n=true by simp] at h6
    exact⟨h1,m',s',h2,h3,h4,h5,h6⟩
   ·rw [if_neg e]
    rw [show Nat.beq n id=false by cases e':Nat.beq n id with
     | true=>exact absurd (Nat.eq_of_beq_eq_true e') e
     | false=>rfl] at h6
    exact⟨h1,m',s',h2,h3,h4,h5,h6⟩
  | normal=>exact hR
  | ret=>exact hR
  | panic ch=>exact hR
  | goto l=>exact hR
  | outgrown=>exact hR
 | loop x ih =>
  intro s Q h w m a hTr hS hE hN hd hrf
  replace h:wLoop kb x (awp T call kb N x) s Q:=h
  unfold wLoop at h
  obtain⟨t',ht,hE'⟩:=fE_ok h
  rw [fK_eq] at ht
  replace hE:EnvOk w m t' a.tmps:=fun d=>by rw [hE' d rfl];exact hE d
  refine AtHead.loop ?_
  refine ht.out (fun s=>∀ (w:World) (m:Mp) (a:Act),Tr we me w m→St w m (hp s.K)→EnvOk w m s.t a.tmps→a.tmps.size=N→Mk bm we D0 w m a.defers→AtHead P ro x (Rel bm N we me D0 Q) a w) ?_ ?_ w m a hTr hS hE hN hd
  ·intro s hs w m a hTr hS hE hN hd
   refine AtHead.step (nn:=nn) (wpIn_mono (ih s _ hs w m a hTr hS hE hN hd hrf) (fun e a' w' hR=>?_))
   cases e with
   | normal =>
    obtain⟨h1,m',s',h2,h3,h4,h5,h6⟩:=hR
    exact h6 w' m' a' h3 h4 h5 h1 h2
   | exit n=>exact hR
   | ret=>exact hR
   | panic ch=>exact hR
   | goto l=>exact hR
   | outgrown=>exact hR
  ·intro s s' hle hs w m a hTr hS hE hN hd
   obtain⟨m',h1,h2,h3,h4⟩:=hle we me hkb w m a.tmps hTr hS hE
   exact hs w m' a h1 h2 h3 hN (hd.sub h4)
 | rangeFunc g ps assign body _ _ =>
  intro s Q h w m a hTr hS hE hN hd hrf
  obtain⟨hro,hbm⟩:=hrf.resolve_right (by simp [noRF])
  exact rangeF_ok (x:=awp T call kb N assign) (y:=awp T call kb N body) hT hcall hmix hD0 hro hbm g ps assign body s Q h w m a hTr hS hE hN hd
 | scope c ih =>
  intro s Q h w m a hTr hS hE hN hd hrf
  exact wpIn_scope (ih s Q h w m a hTr hS hE hN hd (hrf.imp id fun h=>h)) fun l a w hR=>hR.elim
 | label n=>intro s Q h w m a hTr hS hE hN hd hrf;exact wpIn_label ⟨hN,m,s,hd,hTr,hS,hE,h⟩
 | goto=>intro s Q h;exact h.elim
 | refuse=>intro s Q h;exact h.elim
theorem bindPs_ok {w:World} {m:Mp}:∀ (ps:List Nat) (args:List AV) (Args:List Value) (env:List (Nat×AV)) (tmps:Array Value) (t:List (Nat×AV)),bindPs N ps args env=some t→args.length=Args.length →
  (∀ j (hj:j<args.length) (hj':j<Args.length),V w m args[j] Args[j])→EnvOk w m env tmps→tmps.size=N →
  EnvOk w m t ((ps.zip Args).foldl (fun tmps (t,a)=>tmps.setIfInBounds t a) tmps)∧((ps.zip Args).foldl (fun tmps (t,a)=>tmps.setIfInBounds t a) tmps).size=N∧Args.length=ps.length:=by
 intro ps
 induction ps with
 | nil =>
  intro args Args env tmps t h hl hv hE hN
  cases args with
  | nil =>
   simp only [bindPs,Option.some.injEq] at h
   subst h
   exact⟨by simpa using hE,by simpa using hN,by simpa using hl.symm⟩
  | cons a args=>simp [bindPs] at h
 | cons p ps ih =>
  intro args Args env tmps t h hl hv hE hN
  cases args with
  | nil=>simp [bindPs] at h
  | cons a args =>
   cases Args with
   | nil=>simp at hl
   | cons u Args =>
    simp only [bindPs] at h
    split at h
    case h_2=>simp at h
    rename_i hb
    have hp:=Nat.le_of_ble_eq_true hb
    have hv0:V w m a u:=hv 0 (by simp) (by simp)
    obtain⟨h1,h2,h3⟩:=ih args Args _ (tmps.setIfInBounds p u) t h (by simpa using hl) (fun j hj hj'=>hv (j+1) (by simp;omega) (by simp;omega)) (hE.set (by omega) hv0) (by simpa using hN)
    exact⟨by simpa using h1,by simpa using h2,by simp [h3]⟩
theorem around_ok (hT:TabOk P T) (hcall:CallOk P call) (hmix:P.follows .mixedOrders=true) {r:Nat} {args:List AV} {K:List ABlk} {k:AO→List ABlk→Prop} (h:around T call r args K k):ARound P r args K k:=by
 intro w m Args u hS hA hu
 unfold around rd2 at h
 split at h
 case h_2=>exact h.elim
 rename_i st env N' ps assign body hnth
 cases st with
 | ready =>
  simp only at h
  split at h
  case h_2=>exact h.elim
  rename_i t hbind
  split at h
  case h_2=>exact h.elim
  rename_i hrf
  simp only [Bool.and_eq_true] at hrf
  rw [fK_eq] at h
  have hb:=hS.blk r
  rw [hp_nth hnth] at hb
  obtain⟨hl,p,fn,tmps,D,hh,hp',hsz,hV⟩:=hb
  have hp'':p=none:=hp'
  subst hp''
  have hlive:(m.L r).isLive:=by rw [hl];trivial
  have hue:u=.func (.yield (m.ρ r)) #[] #[]:=by
   cases hu with
   | yld=>rfl
   | yldOld _ b ho=>rw [hl] at ho;simp [Inf.old] at ho
  obtain⟨hE1,hN1,hlen⟩:=bindPs_ok ps.toList args Args.toList env tmps t hbind (by simpa using hA.1) (fun j hj hj'=>by simpa using hA.2 j hj (by simpa using hj')) (fun d=>hV d) hsz
  have hfold:(ps.zip Args).foldl (fun tmps (t,a)=>tmps.setIfInBounds t a) tmps=(ps.toList.zip Args.toList).foldl (fun tmps (t,a)=>tmps.setIfInBounds t a) tmps:=by
   rw [← Array.foldl_toList,Array.toList_zip]
  rw [← hfold] at hE1 hN1
  refine⟨m.ρ r,fn,_,assign,body,hue,run_yield hh (by simpa using hlen),fun n=>roundIn_of_wpIn trivial ?_⟩
  have hkb:∀ r,len K≤r→m.L r=.absent:=fun r hr=>hS.absent (by
   simp only [hp,nth_eq]
   rw [len_eq] at hr
   rw [List.getElem?_eq_none hr])
  refine wpIn_mono (awp_ok (ro:=some (m.ρ r)) (bm:=true) (D0:=[]) (we:=w) (me:=m) hT hcall hmix hkb (fun d hd=>by simp at hd) assign _ _ h w m { tmps:=(ps.zip Args).foldl (fun tmps (t,a)=>tmps.setIfInBounds t a) tmps,defers:=[] } (Tr.refl w m) hS hE1 hN1 .base (.inr hrf.1)) ?_
  intro e a1 w1 hR
  cases e with
  | normal =>
   obtain⟨hN2,m1,s1,hM1,hT1,hS1,hE2,hQ⟩:=hR
   simp only [aroundB,rd2] at hQ
   split at hQ
   case h_2=>exact hQ.elim
   rename_i st1 env1 N1 ps1 as1 bd1 hnth1
   cases st1 with
   | ready =>
    simp only [fL_eq] at hQ
    have hb1:=hS1.blk r
    rw [hp_nth hnth1] at hb1
    obtain⟨hl1,p1,fn1,tmps1,D1,hh1,hp1,hsz1,hV1⟩:=hb1
    have hlive1:(m1.L r).isLive:=by rw [hl1];trivial
    have hρ1:m1.ρ r=m.ρ r:=lp_stands hT1 hl hl1
    have hp1':p1=none:=hp1
    subst hp1'
    obtain⟨o,ho⟩:∃ o:Obj,o=.loop { state:=.busy,pending:=none,fn:=fn1,tmps:=tmps1,params:=ps1,assign:=as1,body:=bd1,defers:=D1 }:=⟨_,rfl⟩
    have hT3:=Tr.putObj hS1 r hlive1 o
    have hS3:=hS1.putObj r hlive1 o (.lp .busy env1 N1 ps1 as1 bd1) ⟨hl1,none,fn1,tmps1,D1,by rw [World.putObj_heap_same (hS1.lt _ hlive1),ho];rfl,rfl,hsz1,fun d=>(hV1 d).mono hT3⟩
    rw [← hp_set s1.K r _ _ hnth1] at hS3
    refine⟨_,run_beginRound (by rw [← hρ1];exact hh1) rfl,?_⟩
    show Code.wpIn (FW (some (m.ρ r))) n P body _ a1 (w1.putObj (m.ρ r) (.loop { state:=.busy,pending:=none,fn:=fn1,tmps:=tmps1,params:=ps1,assign:=as1,body:=bd1,defers:=D1 }))
    rw [← ho,← hρ1]
    refine wpIn_mono (awp_ok (ro:=some (m1.ρ r)) (bm:=true) (D0:=[]) (we:=w) (me:=m) hT hcall hmix hkb (fun d hd=>by simp at hd) body _ _ hQ (w1.putObj (m1.ρ r) o) m1 a1 (hT1.trans hT3) hS3 (hE2.mono hT3) hN2 (hM1.mono hT3) (.inr hrf.2)) ?_
    have fin:∀ (jump:Option Code) (st':LSt) (w4:World) (m4:Mp) (s4:AS) (env4:List (Nat×AV)) (N4:Nat) (ps4:Array Tmp) (as4 bd4:Code),Tr w m w4 m4→St w4 m4 (hp s4.K)→nth s4.K r=some (.lp LSt.busy env4 N4 ps4 as4 bd4)∨(∃ st,nth s4.K r=some (.lp st env4 N4 ps4 as4 bd4)) →
      st'.state=(if jump.isNone then .ready else .done)→st'.pends jump →
      k (.ret (.p (.bool jump.isNone))) (setN s4.K r (.lp st' env4 N4 ps4 as4 bd4)) →
      ∃ v w5,(Instr.endRound (m1.ρ r) jump).run P w4=.ok v w5∧Post w m k (.returned v) w5:=by
     intro jump st' w4 m4 s4 env4 N4 ps4 as4 bd4 hT4 hS4 hn4 hst hpd hk
     obtain⟨st4,hn4⟩:∃ st,nth s4.K r=some (.lp st env4 N4 ps4 as4 bd4):=by
      rcases hn4 with h|h
      ·exact⟨_,h⟩
      ·exact h
     have hb4:=hS4.blk r
     rw [hp_nth hn4] at hb4
     obtain⟨hl4,p4,fn4,tmps4,D4,hh4,hp4,hsz4,hV4⟩:=hb4
     have hlive4:(m4.L r).isLive:=by rw [hl4];trivial
     have hρ4:m4.ρ r=m1.ρ r:=(lp_stands hT4 hl hl4).trans hρ1.symm
     obtain⟨o4,ho4⟩:∃ o:Obj,o=.loop { state:=(if jump.isNone then .ready else .done),pending:=jump,fn:=fn4,tmps:=tmps4,params:=ps4,assign:=as4,body:=bd4,defers:=D4 }:=⟨_,rfl⟩
     have hT5:=Tr.putObj hS4 r hlive4 o4
     have hS5:=hS4.putObj r hlive4 o4 (.lp st' env4 N4 ps4 as4 bd4) ⟨hl4,jump,fn4,tmps4,D4,by rw [World.putObj_heap_same (hS4.lt _ hlive4),ho4,hst],hpd,hsz4,fun d=>(hV4 d).mono hT5⟩
     rw [← hp_set s4.K r _ _ hn4] at hS5
     refine⟨_,_,run_endRound jump (by rw [← hρ4];exact hh4),?_⟩
     rw [hρ4,ho4] at hT5 hS5
     exact⟨m4,_,_,hT4.trans hT5,hS5,.p _ _ (.bool _),hk⟩
    intro e a2 w2 hR2
    cases e with
    | normal =>
     obtain⟨_,m4,s4,_,hT4,hS4,_,hQ4⟩:=hR2
     simp only [aroundE,rd2,fL_eq,fK_eq] at hQ4
     split at hQ4
     case h_2=>exact hQ4.elim
     rename_i hn4
     exact fin none .ready w2 m4 s4 _ _ _ _ _ hT4 hS4 (.inr ⟨_,hn4⟩) rfl rfl hQ4
    | ret =>
     obtain⟨_,m4,s4,_,hT4,hS4,_,hQ4⟩:=hR2
     simp only [aroundE,rd2,fL_eq,fK_eq] at hQ4
     split at hQ4
     case h_2=>exact hQ4.elim
     rename_i hn4
     exact fin (some .ret) .ret w2 m4 s4 _ _ _ _ _ hT4 hS4 (.inr ⟨_,hn4⟩) rfl rfl hQ4
    | exit id =>
     obtain⟨_,m4,s4,_,hT4,hS4,_,hQ4⟩:=hR2
     simp only [aroundE,rd2,fL_eq,fK_eq] at hQ4
     split at hQ4
     case h_2=>exact hQ4.elim
     rename_i hn4
     exact fin (some (.exit id)) (.exit id) w2 m4 s4 _ _ _ _ _ hT4 hS4 (.inr ⟨_,hn4⟩) rfl rfl hQ4
    | panic ch=>obtain⟨_,_,_,_,_,_,_,_,_,_,_,hQ4⟩:=hR2;exact hQ4.elim
    | goto l=>exact hR2.elim
    | outgrown=>exact hR2.elim
   | _=>exact hQ.elim
  | exit n=>obtain⟨_,_,_,_,_,_,_,hQ⟩:=hR;exact hQ.elim
  | ret=>obtain⟨_,_,_,_,_,_,_,hQ⟩:=hR;exact hQ.elim
  | panic ch=>obtain⟨_,_,_,_,_,_,_,_,_,_,_,hQ⟩:=hR;exact hQ.elim
  | goto l=>exact hR.elim
  | outgrown=>exact hR.elim
 | _=>exact h.elim
def resOf (tmps:Array Value):ResultVar→Sem Value
 | .tmp t=>pure (tmps.getD t undef)
 | .cell a t=>do loadVar t (← asAddr (tmps.getD a undef))
theorem ares1_ok (hT:TabOk P T) {w:World} {m:Mp} {t:List (Nat×AV)} {K:List ABlk} {a:Act} (hS:St w m (hp K)) (hE:EnvOk w m t a.tmps) {r:ResultVar} {q:AV→Prop} (h:ares1 T t K r q) :
  ∃ u v,(resOf a.tmps r).run P w=.ok u w∧V w m v u∧q v:=by
 cases r with
 | tmp i =>
  simp only [ares1,fV_eq] at h
  exact⟨_,_,rfl,hE i,h⟩
 | cell i ty =>
  simp only [ares1] at h
  obtain⟨ad,x,b,e,h1,h2,h3⟩:=opLoad_same (k:=fun v _=>q v) hT hS (hE i) h
  exact⟨x,b,by simp [resOf,e,asAddr,h1],h2,h3⟩
theorem aresL_ok (hT:TabOk P T) {w:World} {m:Mp} {t:List (Nat×AV)} {K:List ABlk} {a:Act} (hS:St w m (hp K)) (hE:EnvOk w m t a.tmps) (l:List ResultVar):∀ (q:List AV→Prop),aresL T t K q l →
  ∃ (us:List Value) (vs:List AV),(l.mapM (resOf a.tmps)).run P w=.ok us w∧VL w m vs us.toArray∧q vs:=by
 induction l with
 | nil=>intro q h;exact⟨[],[],rfl,VL.nil w m,h⟩
 | cons r l ih =>
  intro q h
  rw [aresL_cons] at h
  obtain⟨u,v,h1,h2,h3⟩:=ares1_ok hT hS hE h
  obtain⟨us,vs,h4,h5,h6⟩:=ih _ h3
  refine⟨u::us,v::vs,?_,?_,h6⟩
  ·rw [List.mapM_cons,Sem.run_bind,h1]
   simp only [Result.andThen_ok,Sem.run_bind,h4,Sem.run_pure]
  ·refine⟨by have:=h5.1;simpa using this,fun j hj hj'=>?_⟩
   cases j with
   | zero=>exact h2
   | succ j =>
    have:=h5.2 j (by simpa using hj) (by simpa using hj')
    simpa using this
theorem ares_ok (hT:TabOk P T) {w:World} {m:Mp} {s:AS} {a:Act} (hS:St w m (hp s.K)) (hE:EnvOk w m s.t a.tmps) {fn:Func} {q:AV→Prop} (h:ares T fn s q) :
  ∃ u v,(results fn a.tmps).run P w=.ok u w∧V w m v u∧q v:=by
 unfold ares at h
 obtain⟨us,vs,h1,h2,h3⟩:=aresL_ok hT hS hE fn.results.toList _ h
 have hm:(fn.results.mapM (resOf a.tmps)).run P w=.ok us.toArray w:=by
  rw [Array.mapM_eq_mapM_toList,Sem.run_map,h1]
  rfl
 have hl:=h2.1
 have hr:(results fn a.tmps).run P w=.ok (if h:us.toArray.size=1 then us.toArray[0] else .tuple us.toArray) w:=by
  have e:results fn a.tmps=(do let vs ← fn.results.mapM (resOf a.tmps);pure (if h:vs.size=1 then vs[0] else .tuple vs)):=by
   unfold results
   congr 1
  rw [e,Sem.run_bind,hm]
  rfl
 match vs,h2,hl,h3 with
 | [v],h2,hl,h3 =>
  have h1':us.toArray.size=1:=by simpa using hl.symm
  rw [dif_pos h1'] at hr
  exact⟨_,v,hr,h2.2 0 (by simp) (by omega),h3⟩
 | [],h2,hl,h3 =>
  have h1':¬ us.toArray.size=1:=by simp at hl;simp [← hl]
  rw [dif_neg h1'] at hr
  exact⟨_,_,hr,.tup _ _ h2.1 h2.2,h3⟩
 | v::v'::vs,h2,hl,h3 =>
  have h1':¬ us.toArray.size=1:=by simp at hl;simp [← hl]
  rw [dif_neg h1'] at hr
  exact⟨_,_,hr,.tup _ _ h2.1 h2.2,h3⟩
theorem look_frame0 (l:List AV) (i d:Nat):look (frame0 i l) d=if h:i≤d∧d<i+l.length then l[d - i]'(by omega) else .junk:=by
 induction l generalizing i with
 | nil=>simp only [frame0,look,List.length_nil,Nat.add_zero];rw [dif_neg (by omega)]
 | cons a l ih =>
  simp only [frame0]
  rw [look_cons]
  by_cases e:i=d
  ·subst e;rw [if_pos rfl,dif_pos (by simp)];simp
  ·rw [if_neg e,ih]
   by_cases h:i+1≤d∧d<i+1+l.length
   ·rw [dif_pos h,dif_pos (by simp;omega)]
    simp only [show d - i=(d - (i+1))+1 by omega,List.getElem_cons_succ]
   ·rw [dif_neg h,dif_neg (by simp;omega)]
theorem EnvOk.frame {w:World} {m:Mp} {args:List AV} {Args:Array Value} (h:VL w m args Args) (n:Nat):EnvOk w m (frame0 0 args) (Args++Array.replicate n undef):=by
 intro d
 rw [look_frame0]
 by_cases hd:d<args.length
 ·rw [dif_pos (by omega)]
  have hd':d<Args.size:=by rw [← h.1];exact hd
  have e:(Args++Array.replicate n undef).getD d undef=Args[d]:=by
   rw [Array.getD_eq_getD_getElem?,Array.getElem?_append_left hd']
   simp [hd']
  rw [e]
  simpa using h.2 d hd hd'
 ·rw [dif_neg (by omega)]
  exact .junk _
theorem take_mark {w:World} {m:Mp} {H:Nat→ABlk} {D:Nat} {ds:List Deferred} (hI:∀ b,me.I b→b<we.heap.size) (h1:Tr we me w m) (h2:St w m H)
  (h:Mk bm we D0 w m ds) (hW:we.heap.size≤D) (hI':¬ m.I D) (hO:∀ r,(m.L r).isLive→m.ρ r≠D) (h5:∀ d∈ds,d.target≠.collected D) :
  Tr we me (w.putObj D (.deferred none)) m∧St (w.putObj D (.deferred none)) m H∧Mk bm we D0 (w.putObj D (.deferred none)) m ds:=by
 refine⟨h1.aside D hW hI _,h2.aside D hI' hO _,?_⟩
 induction h with
 | base=>exact .base
 | mark hb D' ds k1 k2 k3 k4 k5 _ ih =>
  refine .mark hb D' ds k1 ((World.putObj_heap_other (fun e=>?_)).trans k2) k3 k4 k5 (ih fun d hd=>h5 d (List.mem_cons_of_mem _ hd))
  exact h5 _ (List.mem_cons_self ..) (by rw [e])
theorem leaves_marks {fn:Func} {tmps:Array Value} {R:Ending→World→Prop} {m:Mp} {H:Nat→ABlk} {u:FrameMode} (hu:u≠.run) (hI:∀ b,me.I b→b<we.heap.size):∀ (ds:List Deferred) (w:World),
  Tr we me w m→St w m H→Mk bm we [] w m ds→(∀ w',Tr we me w' m→St w' m H→(∀ a u,V w m a u→V w' m a u)→LeavesIn (FW none) 0 P fn tmps R [] u w')→LeavesInM (FW none) 0 P fn tmps R ds u w:=by
 intro ds
 induction ds with
 | nil=>intro w h1 h2 _ h;exact h w h1 h2 (fun _ _ h=>h)
 | cons d ds ih =>
  intro w h1 h2 hd h
  cases hd with
  | mark hb D ds k1 k2 k3 k4 k5 k6 =>
   obtain⟨h3,h4,h5⟩:=take_mark hI h1 h2 k6 k1 k3 k4 k5
   refine⟨hu,.inl ⟨D,_,rfl,run_takeDeferred k2,ih _ h3 h4 h5 fun w' e1 e2 e3=>h w' e1 e2 fun a u hv=>e3 a u (hv.aside D k3 _)⟩⟩
theorem abody_ok (hT : TabOk P T) (hcall : CallOk P call) (hmix : P.follows .mixedOrders = true) {f : FuncId} {fn : Func} (hf : P.funcs[f]? = some fn) (hn : (fn.name == "runtime.NumGoroutine") = false) {args : List AV} {K : List ABlk} {k : AO → List ABlk → Prop}
  (h:abody T call fn args K k):ACalls P f args K k:=by
 unfold abody at h
 cases hb:fn.body with
 | none=>rw [hb] at h;exact h.elim
 | some c =>
  rw [hb] at h
  simp only at h
  cases hl:Nat.ble (len args) fn.ntmps with
  | false=>rw [hl] at h;exact h.elim
  | true =>
   rw [hl] at h
   have hle:args.length≤fn.ntmps:=by have:=Nat.le_of_ble_eq_true hl;rwa [len_eq] at this
   refine⟨⟨fn,hf,hn,by rw [hb];rfl⟩,fun w m Args hS hA=>(callsIn_wide (n:=0)).1 (callsIn_of_wp_marks hf hb trivial ?_)⟩
   have hkb:∀ r,len K≤r→m.L r=.absent:=fun r hr=>hS.absent (by
    simp only [hp,nth_eq]
    rw [len_eq] at hr
    rw [List.getElem?_eq_none hr])
   simp only [fK_eq,fV_eq] at h
   refine wpIn_mono (awp_ok (ro:=none) (bm:=true) (D0:=[]) (we:=w) (me:=m) hT hcall hmix hkb (fun d hd=>by simp at hd) c _ _ h w m _ (Tr.refl w m) hS (EnvOk.frame hA _) (by simp;have:=hA.1;omega) .base (.inl ⟨rfl,rfl⟩)) (fun e a w' hR=>?_)
   cases e with
   | normal =>
    obtain⟨_,m',s',hd,h1,h2,h3,h4⟩:=hR
    refine leaves_marks (by simp) hS.Ilt a.defers w' h1 h2 hd fun w2 e1 e2 e3=>?_
    obtain⟨u,v,h5,h6,h7⟩:=ares_ok (s:=s') (a:=a) hT e2 (fun d=>e3 _ _ (h3 d)) h4
    exact⟨u,h5,m',v,s'.K,e1,e2,h6,h7⟩
   | ret =>
    obtain⟨_,m',s',hd,h1,h2,h3,h4⟩:=hR
    refine leaves_marks (by simp) hS.Ilt a.defers w' h1 h2 hd fun w2 e1 e2 e3=>?_
    obtain⟨u,v,h5,h6,h7⟩:=ares_ok (s:=s') (a:=a) hT e2 (fun d=>e3 _ _ (h3 d)) h4
    exact⟨u,h5,m',v,s'.K,e1,e2,h6,h7⟩
   | panic ch =>
    obtain⟨_,m',s',v,u,hd,rfl,h1,h2,h3,h4,h5⟩:=hR
    exact leaves_marks (by simp) hS.Ilt a.defers w' h1 h2 hd fun w2 e1 e2 e3=>⟨m',v,u,s'.K,rfl,e1,e2,e3 _ _ h4,h5⟩
   | exit n=>obtain⟨_,_,_,_,_,_,_,h⟩:=hR;exact h.elim
   | goto l=>exact hR
   | outgrown=>exact hR.elim
abbrev AG:=FuncId→Option (List AV→List ABlk→(AO→List ABlk→Prop)→Prop)
def GOk (P:Program) (G:AG):Prop:=∀ f g,G f=some g→∀ args K k,g args K k→ACalls P f args K k
theorem acall_ok (hT:TabOk P T) (hmix:P.follows .mixedOrders=true) {G:AG} (hG:GOk P G) (n:Nat):CallOk P (acall T G n):=by
 induction n with
 | zero=>intro f args K k h;exact h.elim
 | succ n ih =>
  intro f args K k h
  rw [acall_succ] at h
  unfold acallS at h
  cases hb:Nat.blt f 1000000000 with
  | false =>
   rw [hb] at h
   exact⟨fun e=>by simp at e,fun _=>around_ok hT ih hmix h⟩
  | true =>
   rw [hb] at h
   refine⟨fun _=>?_,fun e=>by simp at e⟩
   simp only at h
   cases hg:G f with
   | some g=>rw [hg] at h;exact hG f g hg args K k h
   | none =>
    rw [hg] at h
    simp only at h
    cases hf:T.f.get f with
    | none=>rw [hf] at h;exact h.elim
    | some fn =>
     rw [hf] at h
     obtain⟨h1,h2⟩:=hT.f f fn hf
     exact abody_ok hT ih hmix h1 h2 h
def acall1 (T:Tab) (G:AG) (n:Nat):ACall:=fun f args K k=>match T.f.get f with
 | some fn=>abody T (acall T G n) fn args K k
 | none=>False
theorem acall1_ok (hT:TabOk P T) (hmix:P.follows .mixedOrders=true) {G:AG} (hG:GOk P G) (n:Nat) (f:FuncId) (args:List AV) (K:List ABlk) (k:AO→List ABlk→Prop) (h:acall1 T G n f args K k):ACalls P f args K k:=by
 unfold acall1 at h
 cases hf:T.f.get f with
 | none=>rw [hf] at h;exact h.elim
 | some fn =>
  rw [hf] at h
  obtain⟨h1,h2⟩:=hT.f f fn hf
  exact abody_ok hT (acall_ok hT hmix hG n) hmix h1 h2 h
end
end Go.AE
namespace Go.AE
def zB:PV→Value→Bool
 | .int k n,.int k' n'=>decide (k=k')&&decide (n=n')
 | .bool b,.bool b'=>b==b'
 | .str l,.string s=>l==s.data.toList
 | .nilp,.pointer none=>true
 | .nils,.slice none 0 0=>true
 | .nilf,.nilFunc=>true
 | .nili,.nilIface=>true
 | .nilm,.map none=>true
 | _,_=>false
theorem zB_ok {v:PV} {u:Value} (h:zB v u=true) (w:World) (I:Nat→Prop):VP w I v u:=by
 unfold zB at h
 split at h
 ·simp only [Bool.and_eq_true,decide_eq_true_eq] at h;obtain⟨rfl,rfl⟩:=h;exact .int ..
 ·simp only [beq_iff_eq] at h;subst h;exact .bool ..
 ·simp only [beq_iff_eq] at h;subst h;exact .str _ _ rfl
 ·exact .nilp
 ·exact .nils
 ·exact .nilf
 ·exact .nili
 ·exact .nilm
 ·simp at h
def zLB:List PV→List Value→Bool
 | [],[]=>true
 | v::l,u::l'=>zB v u&&zLB l l'
 | _,_=>false
theorem zLB_ok {l:List PV} {l':List Value} (h:zLB l l'=true):l.length=l'.length∧∀ w I j (hj:j<l.length) (hj':j<l'.length),VP w I l[j] l'[j]:=by
 induction l generalizing l' with
 | nil=>cases l' with
  | nil=>exact⟨rfl,fun w I j hj=>by simp at hj⟩
  | cons u l'=>simp [zLB] at h
 | cons v l ih=>cases l' with
  | nil=>simp [zLB] at h
  | cons u l' =>
   simp only [zLB,Bool.and_eq_true] at h
   obtain⟨h1,h2⟩:=ih h.2
   refine⟨by simp [h1],fun w I j hj hj'=>?_⟩
   cases j with
   | zero=>exact zB_ok h.1 w I
   | succ j=>simpa using h2 w I j (by simpa using hj) (by simpa using hj')
def fsB (P:Program):List Field→List (Nat×Nat)→Bool
 | [],[]=>true
 | f::l,(o,t)::l'=>Nat.beq f.offset o&&Nat.beq f.type t&&(P.info? f.type).isSome&&fsB P l l'
 | _,_=>false
theorem fsB_ok {P:Program} {l:List Field} {l':List (Nat×Nat)} (h:fsB P l l'=true):l.map (fun f=>(f.offset,f.type))=l'∧∀ f∈l,(P.info? f.type).isSome=true:=by
 induction l generalizing l' with
 | nil=>cases l' with
  | nil=>exact⟨rfl,by simp⟩
  | cons u l'=>simp [fsB] at h
 | cons f l ih=>cases l' with
  | nil=>simp [fsB] at h
  | cons u l' =>
   obtain⟨o,t⟩:=u
   simp only [fsB,Bool.and_eq_true] at h
   obtain⟨⟨⟨h1,h2⟩,h3⟩,h4⟩:=h
   obtain⟨h5,h6⟩:=ih h4
   refine⟨?_,fun g hg=>?_⟩
   ·rw [List.map_cons,h5,Nat.eq_of_beq_eq_true h1,Nat.eq_of_beq_eq_true h2]
   ·cases List.mem_cons.1 hg with
    | inl e=>rw [e];exact h3
    | inr e=>exact h6 g e
def utB (P:Program):UT→TypeDesc→Bool
 | .int k,.int k'=>decide (k=k')
 | .bool,.bool=>true
 | .string,.string=>true
 | .slice e,.slice e'=>Nat.beq e e'
 | .ptr e,.pointer e'=>Nat.beq e e'
 | .struct fs,.struct fields=>fsB P fields.toList fs
 | .array n e,.array n' e'=>Nat.beq n n'&&Nat.beq e e'
 | .map k e,.map k' e'=>Nat.beq k k'&&Nat.beq e e'
 | .func,.func _ _ _=>true
 | .iface,.interface _=>true
 | .other,_=>true
 | _,_=>false
theorem utB_ok {P:Program} {u:UT} {d:TypeDesc} (h:utB P u d=true):utOk P u d:=by
 unfold utB at h
 split at h
 ·simp only [decide_eq_true_eq] at h;subst h;rfl
 ·rfl
 ·rfl
 ·have:=Nat.eq_of_beq_eq_true h;subst this;rfl
 ·have:=Nat.eq_of_beq_eq_true h;subst this;rfl
 ·exact⟨_,rfl,fsB_ok h⟩
 ·simp only [Bool.and_eq_true] at h
  have h1:=Nat.eq_of_beq_eq_true h.1
  have h2:=Nat.eq_of_beq_eq_true h.2
  subst h1 h2;rfl
 ·simp only [Bool.and_eq_true] at h
  have h1:=Nat.eq_of_beq_eq_true h.1
  have h2:=Nat.eq_of_beq_eq_true h.2
  subst h1 h2;rfl
 ·exact⟨_,_,_,rfl⟩
 ·exact⟨_,rfl⟩
 ·trivial
 ·simp at h
def tiB (P:Program) (t:Nat) (ti:TI):Bool :=
 match P.info? t with
 | none=>false
 | some i=>match P.underlying t with
  | none=>false
  | some d=>match i.zero with
   | none=>false
   | some z=>Nat.beq i.size ti.size&&Nat.beq i.bytes ti.bytes&&utB P ti.u d&&zLB ti.zero z.cells.toList&&(ti.agg==aggOf d)&&(ti.agg==zAgg z)
theorem tiB_ok {P:Program} {t:Nat} {ti:TI} (h:tiB P t ti=true):TIok P t ti:=by
 unfold tiB at h
 cases hi:P.info? t with
 | none=>rw [hi] at h;simp at h
 | some i =>
  rw [hi] at h
  simp only at h
  cases hu:P.underlying t with
  | none=>rw [hu] at h;simp at h
  | some d =>
   rw [hu] at h
   simp only at h
   cases hz:i.zero with
   | none=>rw [hz] at h;simp at h
   | some z =>
    rw [hz] at h
    simp only [Bool.and_eq_true,beq_iff_eq] at h
    obtain⟨⟨⟨⟨⟨h1,h2⟩,h3⟩,h4⟩,h5⟩,h5'⟩:=h
    obtain⟨h6,h7⟩:=zLB_ok h4
    exact⟨i,d,z,hi,hu,Nat.eq_of_beq_eq_true h1,Nat.eq_of_beq_eq_true h2,utB_ok h3,hz,⟨by simpa using h6,fun w I j hj hj'=>by have:=h7 w I j hj (by simpa using hj');rwa [Array.getElem_toList] at this⟩,h5,h5'⟩
def TT.all {α:Type} (p:Nat→α→Bool):TT α→Bool
 | .leaf=>true
 | .node l k v r=>l.all p&&p k v&&r.all p
theorem TT.all_get {α:Type} {p:Nat→α→Bool} {t:TT α} (h:t.all p=true) {k:Nat} {v:α} (hg:t.get k=some v):p k v=true:=by
 induction t with
 | leaf=>simp [TT.get] at hg
 | node l k' v' r ihl ihr =>
  simp only [TT.all,Bool.and_eq_true] at h
  simp only [TT.get] at hg
  split at hg
  ·rename_i e
   have:=Nat.eq_of_beq_eq_true e
   subst this
   injection hg with hg
   subst hg
   exact h.1.2
  ·split at hg
   ·exact ihl h.1.1 hg
   ·exact ihr h.2 hg
def FAll (P:Program):TT Func→Prop
 | .leaf=>True
 | .node l k v r=>FAll P l∧P.funcs[k]?=some v∧FAll P r
theorem FAll.get {P:Program} {t:TT Func} (h:FAll P t) {k:Nat} {v:Func} (hg:t.get k=some v):P.funcs[k]?=some v:=by
 induction t with
 | leaf=>simp [TT.get] at hg
 | node l k' v' r ihl ihr =>
  obtain⟨h1,h2,h3⟩:=h
  simp only [TT.get] at hg
  split at hg
  ·rename_i e
   have:=Nat.eq_of_beq_eq_true e
   subst this
   injection hg with hg
   subst hg
   exact h2
  ·split at hg
   ·exact ihl h1 hg
   ·exact ihr h3 hg
theorem eqTy_mem {l:List (Nat×List Nat)} {t:Nat} {ks:List Nat} (h:eqTy l t=some ks):(t,ks)∈l:=by
 induction l with
 | nil=>simp [eqTy] at h
 | cons x l ih =>
  obtain⟨t',ks'⟩:=x
  simp only [eqTy] at h
  split at h
  ·rename_i e
   injection h with h
   rw [Nat.eq_of_beq_eq_true e,h]
   exact List.mem_cons_self
  ·exact List.mem_cons_of_mem _ (ih h)
theorem TabOk.of {P : Program} {T : Tab} (h1 : T.t.all (tiB P) = true) (h2 : FAll P T.f) (h3 : T.f.all (fun _ fn => !(fn.name == "runtime.NumGoroutine")) = true) (h4 : T.e.all (fun x => flatB P x.1 x.2) = true) : TabOk P T :=
 ⟨fun _ _ hg=>tiB_ok (TT.all_get h1 hg),fun _ _ hg=>⟨h2.get hg,by have:=TT.all_get h3 hg;simpa using this⟩,fun t ks h=>flatB_ok (List.all_eq_true.1 h4 _ (eqTy_mem h))⟩
end Go.AE
namespace Go.Proofs.YtcmepkfefoidcaaGreatDoor
open Go.AE
set_option maxRecDepth 100000
noncomputable def Tt:TT TI:=(.node (.node (.node (.node (.node (.node (.node (.node (.node .leaf 1 ⟨.func,1,8,[.nilf],false⟩ .leaf) 2 ⟨.int .i64,1,8,[.int .i64 0],false⟩ .leaf) 3 ⟨.int .i64,1,8,[.int .i64 0],false⟩ (.node .leaf 4 ⟨.bool,1,1,[.bool false],false⟩ .leaf)) 5 ⟨.int .u8,1,1,[.int .u8 0],false⟩ (.node (.node .leaf 6 ⟨.int .u8,1,1,[.int .u8 0],false⟩ .leaf) 7 ⟨.struct [(0,2),(1,3),(2,4),(3,6)],4,24,[.int .i64 0,.int .i64 0,.bool false,.int .u8 0],true⟩ (.node .leaf 8 ⟨.struct [(0,2),(1,3),(2,4),(3,6)],4,24,[.int .i64 0,.int .i64 0,.bool false,.int .u8 0],true⟩ .leaf))) 9 ⟨.string,1,16,[.str []],false⟩ (.node (.node (.node (.node .leaf 10 ⟨.string,1,16,[.str []],false⟩ .leaf) 11 ⟨.string,1,16,[.str []],false⟩ .leaf) 12 ⟨.int .u64,1,8,[.int .u64 0],false⟩ (.node .leaf 13 ⟨.struct [(0,9),(1,12)],2,24,[.str [],.int .u64 0],true⟩ .leaf)) 14 ⟨.struct [(0,9),(1,12)],2,24,[.str [],.int .u64 0],true⟩ (.node (.node .leaf 15 ⟨.ptr 288,1,8,[.nilp],false⟩ .leaf) 16 ⟨.ptr 291,1,8,[.nilp],false⟩ (.node .leaf 17 ⟨.ptr 298,1,8,[.nilp],false⟩ .leaf)))) 18 ⟨.struct [(0,17)],1,8,[.nilp],true⟩ (.node (.node (.node (.node (.node .leaf 19 ⟨.struct [(0,17)],1,8,[.nilp],true⟩ .leaf) 20 ⟨.iface,1,16,[.nili],false⟩ .leaf) 21 ⟨.int .i32,1,4,[.int .i32 0],false⟩ (.node .leaf 22 ⟨.slice 44,1,24,[.nils],false⟩ .leaf)) 23 ⟨.slice 3,1,24,[.nils],false⟩ (.node (.node .leaf 24 ⟨.struct [(0,22),(1,23)],2,48,[.nils,.nils],true⟩ .leaf) 25 ⟨.struct [(0,22),(1,23)],2,48,[.nils,.nils],true⟩ (.node .leaf 26 ⟨.func,1,8,[.nilf],false⟩ .leaf))) 27 ⟨.func,1,8,[.nilf],false⟩ (.node (.node (.node .leaf 28 ⟨.ptr 68,1,8,[.nilp],false⟩ .leaf) 29 ⟨.int .i64,1,8,[.int .i64 0],false⟩ (.node .leaf 31 ⟨.func,1,8,[.nilf],false⟩ .leaf)) 32 ⟨.func,1,8,[.nilf],false⟩ (.node (.node .leaf 33 ⟨.func,1,8,[.nilf],false⟩ .leaf) 34 ⟨.func,1,8,[.nilf],false⟩ (.node .leaf 35 ⟨.func,1,8,[.nilf],false⟩ .leaf))))) 36 ⟨.func,1,8,[.nilf],false⟩ (.node (.node (.node (.node (.node (.node .leaf 37 ⟨.func,1,8,[.nilf],false⟩ .leaf) 38 ⟨.slice 82,1,24,[.nils],false⟩ .leaf) 39 ⟨.struct [(0,38),(1,3)],2,32,[.nils,.int .i64 0],true⟩ (.node .leaf 40 ⟨.struct [(0,38),(1,3)],2,32,[.nils,.int .i64 0],true⟩ .leaf)) 42 ⟨.func,1,8,[.nilf],false⟩ (.node (.node .leaf 43 ⟨.struct [(0,3),(1,3),(2,3),(3,23),(4,3)],5,56,[.int .i64 0,.int .i64 0,.int .i64 0,.nils,.int .i64 0],true⟩ .leaf) 44 ⟨.struct [(0,3),(1,3),(2,3),(3,23),(4,3)],5,56,[.int .i64 0,.int .i64 0,.int .i64 0,.nils,.int .i64 0],true⟩ (.node .leaf 45 ⟨.func,1,8,[.nilf],false⟩ .leaf))) 46 ⟨.func,1,8,[.nilf],false⟩ (.node (.node (.node (.node .leaf 47 ⟨.func,1,8,[.nilf],false⟩ .leaf) 48 ⟨.ptr 93,1,8,[.nilp],false⟩ .leaf) 50 ⟨.func,1,8,[.nilf],false⟩ (.node .leaf 51 ⟨.ptr 91,1,8,[.nilp],false⟩ .leaf)) 52 ⟨.func,1,8,[.nilf],false⟩ (.node (.node .leaf 53 ⟨.func,1,8,[.nilf],false⟩ .leaf) 54 ⟨.func,1,8,[.nilf],false⟩ (.node .leaf 55 ⟨.ptr 110,1,8,[.nilp],false⟩ .leaf)))) 57 ⟨.func,1,8,[.nilf],false⟩ (.node (.node (.node (.node (.node .leaf 58 ⟨.slice 61,1,24,[.nils],false⟩ .leaf) 59 ⟨.func,1,8,[.nilf],false⟩ .leaf) 60 ⟨.struct [(0,3),(1,3),(2,3)],3,24,[.int .i64 0,.int .i64 0,.int .i64 0],true⟩ (.node .leaf 61 ⟨.struct [(0,3),(1,3),(2,3)],3,24,[.int .i64 0,.int .i64 0,.int .i64 0],true⟩ .leaf)) 62 ⟨.func,1,8,[.nilf],false⟩ (.node (.node .leaf 64 ⟨.func,1,8,[.nilf],false⟩ .leaf) 65 ⟨.map 3 3,1,8,[.nilm],false⟩ (.node .leaf 66 ⟨.slice 88,1,24,[.nils],false⟩ .leaf))) 67 ⟨.struct [(0,23),(1,65),(2,66),(3,23)],4,80,[.nils,.nilm,.nils,.nils],true⟩ (.node (.node (.node .leaf 68 ⟨.struct [(0,23),(1,65),(2,66),(3,23)],4,80,[.nils,.nilm,.nils,.nils],true⟩ .leaf) 69 ⟨.slice 23,1,24,[.nils],false⟩ (.node .leaf 71 ⟨.func,1,8,[.nilf],false⟩ .leaf)) 72 ⟨.func,1,8,[.nilf],false⟩ (.node (.node .leaf 73 ⟨.func,1,8,[.nilf],false⟩ .leaf) 76 ⟨.func,1,8,[.nilf],false⟩ (.node .leaf 77 ⟨.ptr 80,1,8,[.nilp],false⟩ .leaf)))))) 78 ⟨.ptr 25,1,8,[.nilp],false⟩ (.node (.node (.node (.node (.node (.node (.node .leaf 79 ⟨.struct [(0,40),(2,78),(3,65),(4,3)],5,56,[.nils,.int .i64 0,.nilp,.nilm,.int .i64 0],true⟩ .leaf) 80 ⟨.struct [(0,40),(2,78),(3,65),(4,3)],5,56,[.nils,.int .i64 0,.nilp,.nilm,.int .i64 0],true⟩ .leaf) 81 ⟨.struct [(0,3),(1,3),(2,3),(3,9),(4,23)],5,64,[.int .i64 0,.int .i64 0,.int .i64 0,.str [],.nils],true⟩ (.node .leaf 82 ⟨.struct [(0,3),(1,3),(2,3),(3,9),(4,23)],5,64,[.int .i64 0,.int .i64 0,.int .i64 0,.str [],.nils],true⟩ .leaf)) 83 ⟨.func,1,8,[.nilf],false⟩ (.node (.node .leaf 84 ⟨.func,1,8,[.nilf],false⟩ .leaf) 85 ⟨.int .u64,1,8,[.int .u64 0],false⟩ (.node .leaf 86 ⟨.array 64 85,64,512,[.int .u64 0,.int .u64 0,.int .u64 0,.int .u64 0,.int .u64 0,.int .u64 0,.int .u64 0,.int .u64 0,.int .u64 0,.int .u64 0,.int .u64 0,.int .u64 0,.int .u64 0,.int .u64 0,.int .u64 0,.int .u64 0,.int .u64 0,.int .u64 0,.int .u64 0,.int .u64 0,.int .u64 0,.int .u64 0,.int .u64 0,.int .u64 0,.int .u64 0,.int .u64 0,.int .u64 0,.int .u64 0,.int .u64 0,.int .u64 0,.int .u64 0,.int .u64 0,.int .u64 0,.int .u64 0,.int .u64 0,.int .u64 0,.int .u64 0,.int .u64 0,.int .u64 0,.int .u64 0,.int .u64 0,.int .u64 0,.int .u64 0,.int .u64 0,.int .u64 0,.int .u64 0,.int .u64 0,.int .u64 0,.int .u64 0,.int .u64 0,.int .u64 0,.int .u64 0,.int .u64 0,.int .u64 0,.int .u64 0,.int .u64 0,.int .u64 0,.int .u64 0,.int .u64 0,.int .u64 0,.int .u64 0,.int .u64 0,.int .u64 0,.int .u64 0],true⟩ .leaf))) 87 ⟨.struct [(0,86)],64,512,[.int .u64 0,.int .u64 0,.int .u64 0,.int .u64 0,.int .u64 0,.int .u64 0,.int .u64 0,.int .u64 0,.int .u64 0,.int .u64 0,.int .u64 0,.int .u64 0,.int .u64 0,.int .u64 0,.int .u64 0,.int .u64 0,.int .u64 0,.int .u64 0,.int .u64 0,.int .u64 0,.int .u64 0,.int .u64 0,.int .u64 0,.int .u64 0,.int .u64 0,.int .u64 0,.int .u64 0,.int .u64 0,.int .u64 0,.int .u64 0,.int .u64 0,.int .u64 0,.int .u64 0,.int .u64 0,.int .u64 0,.int .u64 0,.int .u64 0,.int .u64 0,.int .u64 0,.int .u64 0,.int .u64 0,.int .u64 0,.int .u64 0,.int .u64 0,.int .u64 0,.int .u64 0,.int .u64 0,.int .u64 0,.int .u64 0,.int .u64 0,.int .u64 0,.int .u64 0,.int .u64 0,.int .u64 0,.int .u64 0,.int .u64 0,.int .u64 0,.int .u64 0,.int .u64 0,.int .u64 0,.int .u64 0,.int .u64 0,.int .u64 0,.int .u64 0],true⟩ (.node (.node (.node (.node .leaf 88 ⟨.struct [(0,86)],64,512,[.int .u64 0,.int .u64 0,.int .u64 0,.int .u64 0,.int .u64 0,.int .u64 0,.int .u64 0,.int .u64 0,.int .u64 0,.int .u64 0,.int .u64 0,.int .u64 0,.int .u64 0,.int .u64 0,.int .u64 0,.int .u64 0,.int .u64 0,.int .u64 0,.int .u64 0,.int .u64 0,.int .u64 0,.int .u64 0,.int .u64 0,.int .u64 0,.int .u64 0,.int .u64 0,.int .u64 0,.int .u64 0,.int .u64 0,.int .u64 0,.int .u64 0,.int .u64 0,.int .u64 0,.int .u64 0,.int .u64 0,.int .u64 0,.int .u64 0,.int .u64 0,.int .u64 0,.int .u64 0,.int .u64 0,.int .u64 0,.int .u64 0,.int .u64 0,.int .u64 0,.int .u64 0,.int .u64 0,.int .u64 0,.int .u64 0,.int .u64 0,.int .u64 0,.int .u64 0,.int .u64 0,.int .u64 0,.int .u64 0,.int .u64 0,.int .u64 0,.int .u64 0,.int .u64 0,.int .u64 0,.int .u64 0,.int .u64 0,.int .u64 0,.int .u64 0],true⟩ .leaf) 89 ⟨.slice 94,1,24,[.nils],false⟩ .leaf) 90 ⟨.struct [(0,89),(1,23)],2,48,[.nils,.nils],true⟩ (.node .leaf 91 ⟨.struct [(0,89),(1,23)],2,48,[.nils,.nils],true⟩ .leaf)) 92 ⟨.struct [(0,51),(1,3),(2,23)],3,40,[.nilp,.int .i64 0,.nils],true⟩ (.node (.node .leaf 93 ⟨.struct [(0,51),(1,3),(2,23)],3,40,[.nilp,.int .i64 0,.nils],true⟩ .leaf) 94 ⟨.struct [(0,3),(1,3),(2,3),(3,23),(4,3)],5,56,[.int .i64 0,.int .i64 0,.int .i64 0,.nils,.int .i64 0],true⟩ (.node .leaf 95 ⟨.func,1,8,[.nilf],false⟩ .leaf)))) 96 ⟨.struct [],0,0,[],true⟩ (.node (.node (.node (.node (.node .leaf 97 ⟨.struct [],0,0,[],true⟩ .leaf) 98 ⟨.struct [],0,0,[],true⟩ .leaf) 99 ⟨.int .u32,1,4,[.int .u32 0],false⟩ (.node .leaf 100 ⟨.struct [(0,98),(0,99)],1,4,[.int .u32 0],true⟩ .leaf)) 101 ⟨.struct [(0,98),(0,99)],1,4,[.int .u32 0],true⟩ (.node (.node .leaf 102 ⟨.struct [(0,21),(1,99)],2,8,[.int .i32 0,.int .u32 0],true⟩ .leaf) 103 ⟨.struct [(0,21),(1,99)],2,8,[.int .i32 0,.int .u32 0],true⟩ (.node .leaf 104 ⟨.struct [(0,97),(0,103)],2,8,[.int .i32 0,.int .u32 0],true⟩ .leaf))) 105 ⟨.struct [(0,97),(0,103)],2,8,[.int .i32 0,.int .u32 0],true⟩ (.node (.node (.node .leaf 106 ⟨.struct [(0,97),(0,101),(1,105)],3,12,[.int .u32 0,.int .i32 0,.int .u32 0],true⟩ .leaf) 107 ⟨.struct [(0,97),(0,101),(1,105)],3,12,[.int .u32 0,.int .i32 0,.int .u32 0],true⟩ (.node .leaf 108 ⟨.map 3 23,1,8,[.nilm],false⟩ .leaf)) 109 ⟨.struct [(0,25),(2,28),(3,107),(6,58),(7,108),(8,108)],9,112,[.nils,.nils,.nilp,.int .u32 0,.int .i32 0,.int .u32 0,.nils,.nilm,.nilm],true⟩ (.node (.node .leaf 110 ⟨.struct [(0,25),(2,28),(3,107),(6,58),(7,108),(8,108)],9,112,[.nils,.nils,.nilp,.int .u32 0,.int .i32 0,.int .u32 0,.nils,.nilm,.nilm],true⟩ .leaf) 111 ⟨.func,1,8,[.nilf],false⟩ (.node .leaf 112 ⟨.func,1,8,[.nilf],false⟩ .leaf))))) 113 ⟨.func,1,8,[.nilf],false⟩ (.node (.node (.node (.node (.node (.node .leaf 114 ⟨.func,1,8,[.nilf],false⟩ .leaf) 115 ⟨.func,1,8,[.nilf],false⟩ .leaf) 116 ⟨.func,1,8,[.nilf],false⟩ (.node .leaf 117 ⟨.func,1,8,[.nilf],false⟩ .leaf)) 118 ⟨.func,1,8,[.nilf],false⟩ (.node (.node .leaf 120 ⟨.func,1,8,[.nilf],false⟩ .leaf) 121 ⟨.func,1,8,[.nilf],false⟩ (.node .leaf 122 ⟨.func,1,8,[.nilf],false⟩ .leaf))) 123 ⟨.ptr 158,1,8,[.nilp],false⟩ (.node (.node (.node .leaf 124 ⟨.func,1,8,[.nilf],false⟩ .leaf) 125 ⟨.func,1,8,[.nilf],false⟩ (.node .leaf 126 ⟨.slice 4,1,24,[.nils],false⟩ .leaf)) 127 ⟨.func,1,8,[.nilf],false⟩ (.node (.node .leaf 128 ⟨.func,1,8,[.nilf],false⟩ .leaf) 129 ⟨.func,1,8,[.nilf],false⟩ (.node .leaf 130 ⟨.func,1,8,[.nilf],false⟩ .leaf)))) 131 ⟨.ptr 171,1,8,[.nilp],false⟩ (.node (.node (.node (.node (.node .leaf 132 ⟨.func,1,8,[.nilf],false⟩ .leaf) 133 ⟨.func,1,8,[.nilf],false⟩ .leaf) 134 ⟨.func,1,8,[.nilf],false⟩ (.node .leaf 135 ⟨.func,1,8,[.nilf],false⟩ .leaf)) 136 ⟨.func,1,8,[.nilf],false⟩ (.node (.node .leaf 137 ⟨.func,1,8,[.nilf],false⟩ .leaf) 138 ⟨.func,1,8,[.nilf],false⟩ (.node .leaf 139 ⟨.func,1,8,[.nilf],false⟩ .leaf))) 140 ⟨.func,1,8,[.nilf],false⟩ (.node (.node (.node .leaf 141 ⟨.ptr 107,1,8,[.nilp],false⟩ .leaf) 142 ⟨.func,1,8,[.nilf],false⟩ (.node .leaf 143 ⟨.func,1,8,[.nilf],false⟩ .leaf)) 144 ⟨.func,1,8,[.nilf],false⟩ (.node (.node .leaf 145 ⟨.func,1,8,[.nilf],false⟩ .leaf) 146 ⟨.slice 108,1,24,[.nils],false⟩ (.node .leaf 147 ⟨.func,1,8,[.nilf],false⟩ .leaf))))))) 148 ⟨.func,1,8,[.nilf],false⟩ (.node (.node (.node (.node (.node (.node (.node (.node .leaf 149 ⟨.func,1,8,[.nilf],false⟩ .leaf) 150 ⟨.int .u64,1,8,[.int .u64 0],false⟩ .leaf) 151 ⟨.slice 160,1,24,[.nils],false⟩ (.node .leaf 153 ⟨.func,1,8,[.nilf],false⟩ .leaf)) 154 ⟨.struct [(0,3),(1,29)],2,16,[.int .i64 0,.int .i64 0],true⟩ (.node (.node .leaf 155 ⟨.struct [(0,3),(1,29)],2,16,[.int .i64 0,.int .i64 0],true⟩ .leaf) 157 ⟨.struct [(0,151),(1,38),(2,3),(3,3)],4,64,[.nils,.nils,.int .i64 0,.int .i64 0],true⟩ (.node .leaf 158 ⟨.struct [(0,151),(1,38),(2,3),(3,3)],4,64,[.nils,.nils,.int .i64 0,.int .i64 0],true⟩ .leaf))) 159 ⟨.struct [(0,3),(1,3),(2,3),(3,9)],4,40,[.int .i64 0,.int .i64 0,.int .i64 0,.str []],true⟩ (.node (.node (.node (.node .leaf 160 ⟨.struct [(0,3),(1,3),(2,3),(3,9)],4,40,[.int .i64 0,.int .i64 0,.int .i64 0,.str []],true⟩ .leaf) 161 ⟨.func,1,8,[.nilf],false⟩ .leaf) 162 ⟨.func,1,8,[.nilf],false⟩ (.node .leaf 163 ⟨.func,1,8,[.nilf],false⟩ .leaf)) 164 ⟨.func,1,8,[.nilf],false⟩ (.node (.node .leaf 165 ⟨.func,1,8,[.nilf],false⟩ .leaf) 166 ⟨.func,1,8,[.nilf],false⟩ (.node .leaf 167 ⟨.func,1,8,[.nilf],false⟩ .leaf)))) 168 ⟨.map 9 3,1,8,[.nilm],false⟩ (.node (.node (.node (.node (.node .leaf 169 ⟨.map 3 168,1,8,[.nilm],false⟩ .leaf) 170 ⟨.struct [(0,40),(2,23),(3,168),(4,168),(5,169)],6,80,[.nils,.int .i64 0,.nils,.nilm,.nilm,.nilm],true⟩ .leaf) 171 ⟨.struct [(0,40),(2,23),(3,168),(4,168),(5,169)],6,80,[.nils,.int .i64 0,.nils,.nilm,.nilm,.nilm],true⟩ (.node .leaf 172 ⟨.func,1,8,[.nilf],false⟩ .leaf)) 173 ⟨.func,1,8,[.nilf],false⟩ (.node (.node .leaf 174 ⟨.func,1,8,[.nilf],false⟩ .leaf) 175 ⟨.func,1,8,[.nilf],false⟩ (.node .leaf 176 ⟨.func,1,8,[.nilf],false⟩ .leaf))) 177 ⟨.func,1,8,[.nilf],false⟩ (.node (.node (.node .leaf 178 ⟨.func,1,8,[.nilf],false⟩ .leaf) 179 ⟨.func,1,8,[.nilf],false⟩ (.node .leaf 180 ⟨.ptr 101,1,8,[.nilp],false⟩ .leaf)) 181 ⟨.func,1,8,[.nilf],false⟩ (.node (.node .leaf 182 ⟨.ptr 99,1,8,[.nilp],false⟩ .leaf) 183 ⟨.func,1,8,[.nilf],false⟩ (.node .leaf 184 ⟨.func,1,8,[.nilf],false⟩ .leaf))))) 185 ⟨.func,1,8,[.nilf],false⟩ (.node (.node (.node (.node (.node (.node .leaf 186 ⟨.int .i64,1,8,[.int .i64 0],false⟩ .leaf) 188 ⟨.func,1,8,[.nilf],false⟩ .leaf) 189 ⟨.func,1,8,[.nilf],false⟩ (.node .leaf 190 ⟨.func,1,8,[.nilf],false⟩ .leaf)) 191 ⟨.func,1,8,[.nilf],false⟩ (.node (.node .leaf 192 ⟨.func,1,8,[.nilf],false⟩ .leaf) 193 ⟨.func,1,8,[.nilf],false⟩ (.node .leaf 194 ⟨.func,1,8,[.nilf],false⟩ .leaf))) 196 ⟨.func,1,8,[.nilf],false⟩ (.node (.node (.node .leaf 197 ⟨.func,1,8,[.nilf],false⟩ .leaf) 198 ⟨.func,1,8,[.nilf],false⟩ (.node .leaf 199 ⟨.func,1,8,[.nilf],false⟩ .leaf)) 200 ⟨.func,1,8,[.nilf],false⟩ (.node (.node .leaf 201 ⟨.func,1,8,[.nilf],false⟩ .leaf) 203 ⟨.func,1,8,[.nilf],false⟩ (.node .leaf 205 ⟨.func,1,8,[.nilf],false⟩ .leaf)))) 206 ⟨.func,1,8,[.nilf],false⟩ (.node (.node (.node (.node (.node .leaf 207 ⟨.func,1,8,[.nilf],false⟩ .leaf) 208 ⟨.func,1,8,[.nilf],false⟩ .leaf) 209 ⟨.func,1,8,[.nilf],false⟩ (.node .leaf 210 ⟨.func,1,8,[.nilf],false⟩ .leaf)) 211 ⟨.func,1,8,[.nilf],false⟩ (.node (.node .leaf 212 ⟨.ptr 105,1,8,[.nilp],false⟩ .leaf) 213 ⟨.func,1,8,[.nilf],false⟩ (.node .leaf 214 ⟨.func,1,8,[.nilf],false⟩ .leaf))) 215 ⟨.func,1,8,[.nilf],false⟩ (.node (.node (.node .leaf 216 ⟨.func,1,8,[.nilf],false⟩ .leaf) 217 ⟨.func,1,8,[.nilf],false⟩ (.node .leaf 218 ⟨.func,1,8,[.nilf],false⟩ .leaf)) 219 ⟨.func,1,8,[.nilf],false⟩ (.node (.node .leaf 220 ⟨.int .u64,1,8,[.int .u64 0],false⟩ .leaf) 221 ⟨.func,1,8,[.nilf],false⟩ (.node .leaf 222 ⟨.func,1,8,[.nilf],false⟩ .leaf)))))) 223 ⟨.func,1,8,[.nilf],false⟩ (.node (.node (.node (.node (.node (.node (.node .leaf 224 ⟨.ptr 3,1,8,[.nilp],false⟩ .leaf) 225 ⟨.func,1,8,[.nilf],false⟩ .leaf) 226 ⟨.iface,1,16,[.nili],false⟩ (.node .leaf 227 ⟨.iface,1,16,[.nili],false⟩ .leaf)) 229 ⟨.func,1,8,[.nilf],false⟩ (.node (.node .leaf 230 ⟨.func,1,8,[.nilf],false⟩ .leaf) 231 ⟨.func,1,8,[.nilf],false⟩ (.node .leaf 232 ⟨.slice 9,1,24,[.nils],false⟩ .leaf))) 233 ⟨.array 64 5,64,64,[.int .u8 0,.int .u8 0,.int .u8 0,.int .u8 0,.int .u8 0,.int .u8 0,.int .u8 0,.int .u8 0,.int .u8 0,.int .u8 0,.int .u8 0,.int .u8 0,.int .u8 0,.int .u8 0,.int .u8 0,.int .u8 0,.int .u8 0,.int .u8 0,.int .u8 0,.int .u8 0,.int .u8 0,.int .u8 0,.int .u8 0,.int .u8 0,.int .u8 0,.int .u8 0,.int .u8 0,.int .u8 0,.int .u8 0,.int .u8 0,.int .u8 0,.int .u8 0,.int .u8 0,.int .u8 0,.int .u8 0,.int .u8 0,.int .u8 0,.int .u8 0,.int .u8 0,.int .u8 0,.int .u8 0,.int .u8 0,.int .u8 0,.int .u8 0,.int .u8 0,.int .u8 0,.int .u8 0,.int .u8 0,.int .u8 0,.int .u8 0,.int .u8 0,.int .u8 0,.int .u8 0,.int .u8 0,.int .u8 0,.int .u8 0,.int .u8 0,.int .u8 0,.int .u8 0,.int .u8 0,.int .u8 0,.int .u8 0,.int .u8 0,.int .u8 0],true⟩ (.node (.node (.node (.node .leaf 234 ⟨.func,1,8,[.nilf],false⟩ .leaf) 235 ⟨.func,1,8,[.nilf],false⟩ .leaf) 236 ⟨.ptr 103,1,8,[.nilp],false⟩ (.node .leaf 237 ⟨.func,1,8,[.nilf],false⟩ .leaf)) 238 ⟨.ptr 21,1,8,[.nilp],false⟩ (.node (.node .leaf 239 ⟨.func,1,8,[.nilf],false⟩ .leaf) 240 ⟨.other,1,8,[.nilp],false⟩ (.node .leaf 241 ⟨.func,1,8,[.nilf],false⟩ .leaf)))) 242 ⟨.func,1,8,[.nilf],false⟩ (.node (.node (.node (.node (.node .leaf 243 ⟨.func,1,8,[.nilf],false⟩ .leaf) 244 ⟨.func,1,8,[.nilf],false⟩ .leaf) 245 ⟨.ptr 220,1,8,[.nilp],false⟩ (.node .leaf 247 ⟨.func,1,8,[.nilf],false⟩ .leaf)) 248 ⟨.func,1,8,[.nilf],false⟩ (.node (.node .leaf 249 ⟨.func,1,8,[.nilf],false⟩ .leaf) 250 ⟨.slice 5,1,24,[.nils],false⟩ (.node .leaf 251 ⟨.func,1,8,[.nilf],false⟩ .leaf))) 252 ⟨.func,1,8,[.nilf],false⟩ (.node (.node (.node .leaf 253 ⟨.func,1,8,[.nilf],false⟩ .leaf) 254 ⟨.func,1,8,[.nilf],false⟩ (.node .leaf 255 ⟨.int .i64,1,8,[.int .i64 0],false⟩ .leaf)) 257 ⟨.func,1,8,[.nilf],false⟩ (.node (.node .leaf 258 ⟨.ptr 269,1,8,[.nilp],false⟩ .leaf) 259 ⟨.func,1,8,[.nilf],false⟩ (.node .leaf 260 ⟨.func,1,8,[.nilf],false⟩ .leaf))))) 261 ⟨.func,1,8,[.nilf],false⟩ (.node (.node (.node (.node (.node (.node .leaf 262 ⟨.func,1,8,[.nilf],false⟩ .leaf) 263 ⟨.func,1,8,[.nilf],false⟩ .leaf) 264 ⟨.func,1,8,[.nilf],false⟩ (.node .leaf 266 ⟨.func,1,8,[.nilf],false⟩ .leaf)) 267 ⟨.func,1,8,[.nilf],false⟩ (.node (.node .leaf 268 ⟨.struct [(0,9),(1,9),(2,227)],3,48,[.str [],.str [],.nili],true⟩ .leaf) 269 ⟨.struct [(0,9),(1,9),(2,227)],3,48,[.str [],.str [],.nili],true⟩ (.node .leaf 270 ⟨.func,1,8,[.nilf],false⟩ .leaf))) 271 ⟨.array 24 5,24,24,[.int .u8 0,.int .u8 0,.int .u8 0,.int .u8 0,.int .u8 0,.int .u8 0,.int .u8 0,.int .u8 0,.int .u8 0,.int .u8 0,.int .u8 0,.int .u8 0,.int .u8 0,.int .u8 0,.int .u8 0,.int .u8 0,.int .u8 0,.int .u8 0,.int .u8 0,.int .u8 0,.int .u8 0,.int .u8 0,.int .u8 0,.int .u8 0],true⟩ (.node (.node (.node .leaf 272 ⟨.func,1,8,[.nilf],false⟩ .leaf) 274 ⟨.func,1,8,[.nilf],false⟩ (.node .leaf 276 ⟨.func,1,8,[.nilf],false⟩ .leaf)) 277 ⟨.func,1,8,[.nilf],false⟩ (.node (.node .leaf 278 ⟨.ptr 5,1,8,[.nilp],false⟩ .leaf) 279 ⟨.ptr 281,1,8,[.nilp],false⟩ (.node .leaf 280 ⟨.struct [(0,9)],1,16,[.str []],true⟩ .leaf)))) 281 ⟨.struct [(0,9)],1,16,[.str []],true⟩ (.node (.node (.node (.node (.node .leaf 282 ⟨.func,1,8,[.nilf],false⟩ .leaf) 283 ⟨.array 20 85,20,160,[.int .u64 0,.int .u64 0,.int .u64 0,.int .u64 0,.int .u64 0,.int .u64 0,.int .u64 0,.int .u64 0,.int .u64 0,.int .u64 0,.int .u64 0,.int .u64 0,.int .u64 0,.int .u64 0,.int .u64 0,.int .u64 0,.int .u64 0,.int .u64 0,.int .u64 0,.int .u64 0],true⟩ .leaf) 285 ⟨.array 32 5,32,32,[.int .u8 0,.int .u8 0,.int .u8 0,.int .u8 0,.int .u8 0,.int .u8 0,.int .u8 0,.int .u8 0,.int .u8 0,.int .u8 0,.int .u8 0,.int .u8 0,.int .u8 0,.int .u8 0,.int .u8 0,.int .u8 0,.int .u8 0,.int .u8 0,.int .u8 0,.int .u8 0,.int .u8 0,.int .u8 0,.int .u8 0,.int .u8 0,.int .u8 0,.int .u8 0,.int .u8 0,.int .u8 0,.int .u8 0,.int .u8 0,.int .u8 0,.int .u8 0],true⟩ (.node .leaf 286 ⟨.func,1,8,[.nilf],false⟩ .leaf)) 287 ⟨.struct [(0,17),(1,17),(2,17),(3,9)],4,40,[.nilp,.nilp,.nilp,.str []],true⟩ (.node (.node .leaf 288 ⟨.struct [(0,17),(1,17),(2,17),(3,9)],4,40,[.nilp,.nilp,.nilp,.str []],true⟩ .leaf) 289 ⟨.array 0 16,0,0,[],true⟩ (.node .leaf 290 ⟨.struct [(0,289)],0,0,[],true⟩ .leaf))) 291 ⟨.struct [(0,289)],0,0,[],true⟩ (.node (.node (.node .leaf 292 ⟨.int .u8,1,1,[.int .u8 0],false⟩ .leaf) 293 ⟨.int .u8,1,1,[.int .u8 0],false⟩ (.node .leaf 294 ⟨.func,1,8,[.nilf],false⟩ .leaf)) 295 ⟨.int .i32,1,4,[.int .i32 0],false⟩ (.node (.node .leaf 296 ⟨.int .i32,1,4,[.int .i32 0],false⟩ .leaf) 297 ⟨.struct [(0,12),(1,12),(2,99),(3,292),(4,5),(5,5),(6,293),(7,294),(8,278),(9,295),(10,296)],11,48,[.int .u64 0,.int .u64 0,.int .u32 0,.int .u8 0,.int .u8 0,.int .u8 0,.int .u8 0,.nilf,.nilp,.int .i32 0,.int .i32 0],true⟩ (.node .leaf 298 ⟨.struct [(0,12),(1,12),(2,99),(3,292),(4,5),(5,5),(6,293),(7,294),(8,278),(9,295),(10,296)],11,48,[.int .u64 0,.int .u64 0,.int .u32 0,.int .u8 0,.int .u8 0,.int .u8 0,.int .u8 0,.nilf,.nilp,.int .i32 0,.int .i32 0],true⟩ .leaf))))))))
noncomputable def Tf:TT Func:=(.node (.node (.node (.node (.node (.node (.node (.node (.node .leaf 0 Tryz.f0 .leaf) 1 Tryz.f1 .leaf) 2 Tryz.f2 (.node .leaf 3 Tryz.f3 .leaf)) 4 Tryz.f4 (.node (.node (.node .leaf 5 Tryz.f5 .leaf) 6 Tryz.f6 .leaf) 7 Tryz.f7 (.node .leaf 8 Tryz.f8 .leaf))) 9 Tryz.f9 (.node (.node (.node (.node .leaf 10 Tryz.f10 .leaf) 11 Tryz.f11 .leaf) 12 Tryz.f12 (.node .leaf 13 Tryz.f13 .leaf)) 14 Tryz.f14 (.node (.node (.node .leaf 15 Tryz.f15 .leaf) 16 Tryz.f16 .leaf) 17 Tryz.f17 (.node .leaf 18 Tryz.f18 .leaf)))) 19 Tryz.f19 (.node (.node (.node (.node (.node .leaf 20 Tryz.f20 .leaf) 21 Tryz.f21 .leaf) 22 Tryz.f22 (.node .leaf 23 Tryz.f23 .leaf)) 24 Tryz.f24 (.node (.node (.node .leaf 25 Tryz.f25 .leaf) 26 Tryz.f26 .leaf) 27 Tryz.f27 (.node .leaf 28 Tryz.f28 .leaf))) 29 Tryz.f29 (.node (.node (.node (.node .leaf 30 Tryz.f30 .leaf) 31 Tryz.f31 .leaf) 32 Tryz.f32 (.node .leaf 33 Tryz.f33 .leaf)) 34 Tryz.f34 (.node (.node (.node .leaf 35 Tryz.f35 .leaf) 36 Tryz.f36 .leaf) 37 Tryz.f37 (.node .leaf 38 Tryz.f38 .leaf))))) 39 Tryz.f39 (.node (.node (.node (.node (.node (.node .leaf 40 Tryz.f40 .leaf) 41 Tryz.f41 .leaf) 42 Tryz.f42 (.node .leaf 43 Tryz.f43 .leaf)) 44 Tryz.f44 (.node (.node (.node .leaf 45 Tryz.f45 .leaf) 46 Tryz.f46 .leaf) 47 Tryz.f47 (.node .leaf 48 Tryz.f48 .leaf))) 49 Tryz.f49 (.node (.node (.node (.node .leaf 50 Tryz.f50 .leaf) 51 Tryz.f51 .leaf) 52 Tryz.f52 (.node .leaf 53 Tryz.f53 .leaf)) 54 Tryz.f54 (.node (.node (.node .leaf 55 Tryz.f55 .leaf) 56 Tryz.f56 .leaf) 57 Tryz.f57 (.node .leaf 58 Tryz.f58 .leaf)))) 59 Tryz.f59 (.node (.node (.node (.node (.node .leaf 60 Tryz.f60 .leaf) 61 Tryz.f61 .leaf) 62 Tryz.f62 (.node .leaf 63 Tryz.f63 .leaf)) 64 Tryz.f64 (.node (.node (.node .leaf 65 Tryz.f65 .leaf) 66 Tryz.f66 .leaf) 67 Tryz.f67 (.node .leaf 68 Tryz.f68 .leaf))) 69 Tryz.f69 (.node (.node (.node (.node .leaf 70 Tryz.f70 .leaf) 71 Tryz.f71 .leaf) 72 Tryz.f72 (.node .leaf 73 Tryz.f73 .leaf)) 74 Tryz.f74 (.node (.node .leaf 75 Tryz.f75 .leaf) 76 Tryz.f76 (.node .leaf 77 Tryz.f77 .leaf)))))) 78 Tryz.f78 (.node (.node (.node (.node (.node (.node (.node .leaf 79 Tryz.f79 .leaf) 80 Tryz.f80 .leaf) 81 Tryz.f81 (.node .leaf 82 Tryz.f82 .leaf)) 83 Tryz.f83 (.node (.node (.node .leaf 84 Tryz.f84 .leaf) 85 Tryz.f85 .leaf) 86 Tryz.f86 (.node .leaf 87 Tryz.f87 .leaf))) 88 Tryz.f88 (.node (.node (.node (.node .leaf 89 Tryz.f89 .leaf) 90 Tryz.f90 .leaf) 91 Tryz.f91 (.node .leaf 92 Tryz.f92 .leaf)) 93 Tryz.f93 (.node (.node (.node .leaf 94 Tryz.f94 .leaf) 95 Tryz.f95 .leaf) 96 Tryz.f96 (.node .leaf 97 Tryz.f97 .leaf)))) 98 Tryz.f98 (.node (.node (.node (.node (.node .leaf 99 Tryz.f99 .leaf) 100 Tryz.f100 .leaf) 101 Tryz.f101 (.node .leaf 102 Tryz.f102 .leaf)) 103 Tryz.f103 (.node (.node (.node .leaf 104 Tryz.f104 .leaf) 105 Tryz.f105 .leaf) 106 Tryz.f106 (.node .leaf 107 Tryz.f107 .leaf))) 108 Tryz.f108 (.node (.node (.node (.node .leaf 109 Tryz.f109 .leaf) 110 Tryz.f110 .leaf) 111 Tryz.f111 (.node .leaf 112 Tryz.f112 .leaf)) 113 Tryz.f113 (.node (.node (.node .leaf 114 Tryz.f114 .leaf) 115 Tryz.f115 .leaf) 116 Tryz.f116 (.node .leaf 117 Tryz.f117 .leaf))))) 118 Tryz.f118 (.node (.node (.node (.node (.node (.node .leaf 119 Tryz.f119 .leaf) 120 Tryz.f120 .leaf) 121 Tryz.f121 (.node .leaf 122 Tryz.f122 .leaf)) 123 Tryz.f123 (.node (.node (.node .leaf 124 Tryz.f124 .leaf) 125 Tryz.f125 .leaf) 126 Tryz.f126 (.node .leaf 127 Tryz.f127 .leaf))) 128 Tryz.f128 (.node (.node (.node (.node .leaf 129 Tryz.f129 .leaf) 130 Tryz.f130 .leaf) 131 Tryz.f131 (.node .leaf 132 Tryz.f132 .leaf)) 133 Tryz.f133 (.node (.node (.node .leaf 134 Tryz.f134 .leaf) 135 Tryz.f135 .leaf) 136 Tryz.f136 (.node .leaf 137 Tryz.f137 .leaf)))) 138 Tryz.f138 (.node (.node (.node (.node (.node .leaf 139 Tryz.f139 .leaf) 140 Tryz.f140 .leaf) 141 Tryz.f141 (.node .leaf 142 Tryz.f142 .leaf)) 143 Tryz.f143 (.node (.node (.node .leaf 144 Tryz.f144 .leaf) 145 Tryz.f145 .leaf) 146 Tryz.f146 (.node .leaf 147 Tryz.f147 .leaf))) 148 Tryz.f148 (.node (.node (.node (.node .leaf 149 Tryz.f149 .leaf) 150 Tryz.f150 .leaf) 151 Tryz.f151 (.node .leaf 152 Tryz.f152 .leaf)) 153 Tryz.f153 (.node (.node .leaf 154 Tryz.f154 .leaf) 155 Tryz.f155 (.node .leaf 156 Tryz.f156 .leaf))))))) 157 Tryz.f157 (.node (.node (.node (.node (.node (.node (.node (.node .leaf 158 Tryz.f158 .leaf) 159 Tryz.f159 .leaf) 160 Tryz.f160 (.node .leaf 161 Tryz.f161 .leaf)) 162 Tryz.f162 (.node (.node (.node .leaf 163 Tryz.f163 .leaf) 164 Tryz.f164 .leaf) 165 Tryz.f165 (.node .leaf 166 Tryz.f166 .leaf))) 167 Tryz.f167 (.node (.node (.node (.node .leaf 168 Tryz.f168 .leaf) 169 Tryz.f169 .leaf) 170 Tryz.f170 (.node .leaf 171 Tryz.f171 .leaf)) 172 Tryz.f172 (.node (.node (.node .leaf 173 Tryz.f173 .leaf) 174 Tryz.f174 .leaf) 175 Tryz.f175 (.node .leaf 176 Tryz.f176 .leaf)))) 177 Tryz.f177 (.node (.node (.node (.node (.node .leaf 178 Tryz.f178 .leaf) 179 Tryz.f179 .leaf) 180 Tryz.f180 (.node .leaf 181 Tryz.f181 .leaf)) 182 Tryz.f182 (.node (.node (.node .leaf 183 Tryz.f183 .leaf) 184 Tryz.f184 .leaf) 185 Tryz.f185 (.node .leaf 186 Tryz.f186 .leaf))) 187 Tryz.f187 (.node (.node (.node (.node .leaf 188 Tryz.f188 .leaf) 189 Tryz.f189 .leaf) 190 Tryz.f190 (.node .leaf 191 Tryz.f191 .leaf)) 192 Tryz.f192 (.node (.node (.node .leaf 193 Tryz.f193 .leaf) 194 Tryz.f194 .leaf) 195 Tryz.f195 (.node .leaf 196 Tryz.f196 .leaf))))) 197 Tryz.f197 (.node (.node (.node (.node (.node (.node .leaf 198 Tryz.f198 .leaf) 199 Tryz.f199 .leaf) 200 Tryz.f200 (.node .leaf 201 Tryz.f201 .leaf)) 202 Tryz.f202 (.node (.node (.node .leaf 203 Tryz.f203 .leaf) 204 Tryz.f204 .leaf) 205 Tryz.f205 (.node .leaf 206 Tryz.f206 .leaf))) 207 Tryz.f207 (.node (.node (.node (.node .leaf 208 Tryz.f208 .leaf) 209 Tryz.f209 .leaf) 210 Tryz.f210 (.node .leaf 211 Tryz.f211 .leaf)) 212 Tryz.f212 (.node (.node (.node .leaf 213 Tryz.f213 .leaf) 214 Tryz.f214 .leaf) 215 Tryz.f215 (.node .leaf 216 Tryz.f216 .leaf)))) 217 Tryz.f217 (.node (.node (.node (.node (.node .leaf 218 Tryz.f218 .leaf) 219 Tryz.f219 .leaf) 220 Tryz.f220 (.node .leaf 221 Tryz.f221 .leaf)) 222 Tryz.f222 (.node (.node (.node .leaf 223 Tryz.f223 .leaf) 224 Tryz.f224 .leaf) 225 Tryz.f225 (.node .leaf 226 Tryz.f226 .leaf))) 227 Tryz.f227 (.node (.node (.node (.node .leaf 228 Tryz.f228 .leaf) 229 Tryz.f229 .leaf) 230 Tryz.f230 (.node .leaf 231 Tryz.f231 .leaf)) 232 Tryz.f232 (.node (.node .leaf 233 Tryz.f233 .leaf) 234 Tryz.f234 (.node .leaf 235 Tryz.f235 .leaf)))))) 236 Tryz.f236 (.node (.node (.node (.node (.node (.node (.node .leaf 237 Tryz.f237 .leaf) 238 Tryz.f238 .leaf) 239 Tryz.f239 (.node .leaf 240 Tryz.f240 .leaf)) 241 Tryz.f241 (.node (.node (.node .leaf 242 Tryz.f242 .leaf) 243 Tryz.f243 .leaf) 244 Tryz.f244 (.node .leaf 245 Tryz.f245 .leaf))) 246 Tryz.f246 (.node (.node (.node (.node .leaf 247 Tryz.f247 .leaf) 248 Tryz.f248 .leaf) 249 Tryz.f249 (.node .leaf 250 Tryz.f250 .leaf)) 251 Tryz.f251 (.node (.node (.node .leaf 252 Tryz.f252 .leaf) 253 Tryz.f253 .leaf) 254 Tryz.f254 (.node .leaf 255 Tryz.f255 .leaf)))) 256 Tryz.f256 (.node (.node (.node (.node (.node .leaf 257 Tryz.f257 .leaf) 258 Tryz.f258 .leaf) 259 Tryz.f259 (.node .leaf 260 Tryz.f260 .leaf)) 261 Tryz.f261 (.node (.node (.node .leaf 262 Tryz.f262 .leaf) 263 Tryz.f263 .leaf) 264 Tryz.f264 (.node .leaf 265 Tryz.f265 .leaf))) 266 Tryz.f266 (.node (.node (.node (.node .leaf 267 Tryz.f267 .leaf) 268 Tryz.f268 .leaf) 269 Tryz.f269 (.node .leaf 270 Tryz.f270 .leaf)) 271 Tryz.f271 (.node (.node .leaf 272 Tryz.f272 .leaf) 273 Tryz.f273 (.node .leaf 274 Tryz.f274 .leaf))))) 275 Tryz.f275 (.node (.node (.node (.node (.node (.node .leaf 276 Tryz.f276 .leaf) 277 Tryz.f277 .leaf) 278 Tryz.f278 (.node .leaf 279 Tryz.f279 .leaf)) 280 Tryz.f280 (.node (.node (.node .leaf 281 Tryz.f281 .leaf) 282 Tryz.f282 .leaf) 283 Tryz.f283 (.node .leaf 284 Tryz.f284 .leaf))) 285 Tryz.f285 (.node (.node (.node (.node .leaf 286 Tryz.f286 .leaf) 287 Tryz.f287 .leaf) 288 Tryz.f288 (.node .leaf 289 Tryz.f289 .leaf)) 290 Tryz.f290 (.node (.node (.node .leaf 291 Tryz.f291 .leaf) 292 Tryz.f292 .leaf) 293 Tryz.f293 (.node .leaf 294 Tryz.f294 .leaf)))) 295 Tryz.f295 (.node (.node (.node (.node (.node .leaf 296 Tryz.f296 .leaf) 297 Tryz.f297 .leaf) 298 Tryz.f298 (.node .leaf 299 Tryz.f299 .leaf)) 300 Tryz.f300 (.node (.node (.node .leaf 301 Tryz.f301 .leaf) 302 Tryz.f302 .leaf) 303 Tryz.f303 (.node .leaf 304 Tryz.f304 .leaf))) 305 Tryz.f305 (.node (.node (.node (.node .leaf 306 Tryz.f306 .leaf) 307 Tryz.f307 .leaf) 308 Tryz.f308 (.node .leaf 309 Tryz.f309 .leaf)) 310 Tryz.f310 (.node (.node .leaf 311 Tryz.f311 .leaf) 312 Tryz.f312 (.node .leaf 313 Tryz.f313 .leaf))))))))
noncomputable def Te:List (Nat×List Nat):=[(61,[0,0,0]),(88,[0,0,0,0,0,0,0,0,0,0,0,0,0,0,0,0,0,0,0,0,0,0,0,0,0,0,0,0,0,0,0,0,0,0,0,0,0,0,0,0,0,0,0,0,0,0,0,0,0,0,0,0,0,0,0,0,0,0,0,0,0,0,0,0]),(155,[0,0]),(160,[0,0,0,2])]
noncomputable def T0:Tab:=⟨Tt,Tf,Te⟩
theorem e_ok:Te.all (fun x=>flatB Tryz.prog x.1 x.2)=true:=by kernel_rfl
theorem t_ok:Tt.all (tiB Tryz.prog)=true:=by kernel_rfl
theorem n_ok : Tf.all (fun _ fn => !(fn.name == "runtime.NumGoroutine")) = true := by kernel_rfl
theorem f_ok:FAll Tryz.prog Tf:=⟨⟨⟨⟨⟨⟨⟨⟨⟨trivial,Tryz.func0,trivial⟩,Tryz.func1,trivial⟩,Tryz.func2,⟨trivial,Tryz.func3,trivial⟩⟩,Tryz.func4,⟨⟨⟨trivial,Tryz.func5,trivial⟩,Tryz.func6,trivial⟩,Tryz.func7,⟨trivial,Tryz.func8,trivial⟩⟩⟩,Tryz.func9,⟨⟨⟨⟨trivial,Tryz.func10,trivial⟩,Tryz.func11,trivial⟩,Tryz.func12,⟨trivial,Tryz.func13,trivial⟩⟩,Tryz.func14,⟨⟨⟨trivial,Tryz.func15,trivial⟩,Tryz.func16,trivial⟩,Tryz.func17,⟨trivial,Tryz.func18,trivial⟩⟩⟩⟩,Tryz.func19,⟨⟨⟨⟨⟨trivial,Tryz.func20,trivial⟩,Tryz.func21,trivial⟩,Tryz.func22,⟨trivial,Tryz.func23,trivial⟩⟩,Tryz.func24,⟨⟨⟨trivial,Tryz.func25,trivial⟩,Tryz.func26,trivial⟩,Tryz.func27,⟨trivial,Tryz.func28,trivial⟩⟩⟩,Tryz.func29,⟨⟨⟨⟨trivial,Tryz.func30,trivial⟩,Tryz.func31,trivial⟩,Tryz.func32,⟨trivial,Tryz.func33,trivial⟩⟩,Tryz.func34,⟨⟨⟨trivial,Tryz.func35,trivial⟩,Tryz.func36,trivial⟩,Tryz.func37,⟨trivial,Tryz.func38,trivial⟩⟩⟩⟩⟩,Tryz.func39,⟨⟨⟨⟨⟨⟨trivial,Tryz.func40,trivial⟩,Tryz.func41,trivial⟩,Tryz.func42,⟨trivial,Tryz.func43,trivial⟩⟩,Tryz.func44,⟨⟨⟨trivial,Tryz.func45,trivial⟩,Tryz.func46,trivial⟩,Tryz.func47,⟨trivial,Tryz.func48,trivial⟩⟩⟩,Tryz.func49,⟨⟨⟨⟨trivial,Tryz.func50,trivial⟩,Tryz.func51,trivial⟩,Tryz.func52,⟨trivial,Tryz.func53,trivial⟩⟩,Tryz.func54,⟨⟨⟨trivial,Tryz.func55,trivial⟩,Tryz.func56,trivial⟩,Tryz.func57,⟨trivial,Tryz.func58,trivial⟩⟩⟩⟩,Tryz.func59,⟨⟨⟨⟨⟨trivial,Tryz.func60,trivial⟩,Tryz.func61,trivial⟩,Tryz.func62,⟨trivial,Tryz.func63,trivial⟩⟩,Tryz.func64,⟨⟨⟨trivial,Tryz.func65,trivial⟩,Tryz.func66,trivial⟩,Tryz.func67,⟨trivial,Tryz.func68,trivial⟩⟩⟩,Tryz.func69,⟨⟨⟨⟨trivial,Tryz.func70,trivial⟩,Tryz.func71,trivial⟩,Tryz.func72,⟨trivial,Tryz.func73,trivial⟩⟩,Tryz.func74,⟨⟨trivial,Tryz.func75,trivial⟩,Tryz.func76,⟨trivial,Tryz.func77,trivial⟩⟩⟩⟩⟩⟩,Tryz.func78,⟨⟨⟨⟨⟨⟨⟨trivial,Tryz.func79,trivial⟩,Tryz.func80,trivial⟩,Tryz.func81,⟨trivial,Tryz.func82,trivial⟩⟩,Tryz.func83,⟨⟨⟨trivial,Tryz.func84,trivial⟩,Tryz.func85,trivial⟩,Tryz.func86,⟨trivial,Tryz.func87,trivial⟩⟩⟩,Tryz.func88,⟨⟨⟨⟨trivial,Tryz.func89,trivial⟩,Tryz.func90,trivial⟩,Tryz.func91,⟨trivial,Tryz.func92,trivial⟩⟩,Tryz.func93,⟨⟨⟨trivial,Tryz.func94,trivial⟩,Tryz.func95,trivial⟩,Tryz.func96,⟨trivial,Tryz.func97,trivial⟩⟩⟩⟩,Tryz.func98,⟨⟨⟨⟨⟨trivial,Tryz.func99,trivial⟩,Tryz.func100,trivial⟩,Tryz.func101,⟨trivial,Tryz.func102,trivial⟩⟩,Tryz.func103,⟨⟨⟨trivial,Tryz.func104,trivial⟩,Tryz.func105,trivial⟩,Tryz.func106,⟨trivial,Tryz.func107,trivial⟩⟩⟩,Tryz.func108,⟨⟨⟨⟨trivial,Tryz.func109,trivial⟩,Tryz.func110,trivial⟩,Tryz.func111,⟨trivial,Tryz.func112,trivial⟩⟩,Tryz.func113,⟨⟨⟨trivial,Tryz.func114,trivial⟩,Tryz.func115,trivial⟩,Tryz.func116,⟨trivial,Tryz.func117,trivial⟩⟩⟩⟩⟩,Tryz.func118,⟨⟨⟨⟨⟨⟨trivial,Tryz.func119,trivial⟩,Tryz.func120,trivial⟩,Tryz.func121,⟨trivial,Tryz.func122,trivial⟩⟩,Tryz.func123,⟨⟨⟨trivial,Tryz.func124,trivial⟩,Tryz.func125,trivial⟩,Tryz.func126,⟨trivial,Tryz.func127,trivial⟩⟩⟩,Tryz.func128,⟨⟨⟨⟨trivial,Tryz.func129,trivial⟩,Tryz.func130,trivial⟩,Tryz.func131,⟨trivial,Tryz.func132,trivial⟩⟩,Tryz.func133,⟨⟨⟨trivial,Tryz.func134,trivial⟩,Tryz.func135,trivial⟩,Tryz.func136,⟨trivial,Tryz.func137,trivial⟩⟩⟩⟩,Tryz.func138,⟨⟨⟨⟨⟨trivial,Tryz.func139,trivial⟩,Tryz.func140,trivial⟩,Tryz.func141,⟨trivial,Tryz.func142,trivial⟩⟩,Tryz.func143,⟨⟨⟨trivial,Tryz.func144,trivial⟩,Tryz.func145,trivial⟩,Tryz.func146,⟨trivial,Tryz.func147,trivial⟩⟩⟩,Tryz.func148,⟨⟨⟨⟨trivial,Tryz.func149,trivial⟩,Tryz.func150,trivial⟩,Tryz.func151,⟨trivial,Tryz.func152,trivial⟩⟩,Tryz.func153,⟨⟨trivial,Tryz.func154,trivial⟩,Tryz.func155,⟨trivial,Tryz.func156,trivial⟩⟩⟩⟩⟩⟩⟩,Tryz.func157,⟨⟨⟨⟨⟨⟨⟨⟨trivial,Tryz.func158,trivial⟩,Tryz.func159,trivial⟩,Tryz.func160,⟨trivial,Tryz.func161,trivial⟩⟩,Tryz.func162,⟨⟨⟨trivial,Tryz.func163,trivial⟩,Tryz.func164,trivial⟩,Tryz.func165,⟨trivial,Tryz.func166,trivial⟩⟩⟩,Tryz.func167,⟨⟨⟨⟨trivial,Tryz.func168,trivial⟩,Tryz.func169,trivial⟩,Tryz.func170,⟨trivial,Tryz.func171,trivial⟩⟩,Tryz.func172,⟨⟨⟨trivial,Tryz.func173,trivial⟩,Tryz.func174,trivial⟩,Tryz.func175,⟨trivial,Tryz.func176,trivial⟩⟩⟩⟩,Tryz.func177,⟨⟨⟨⟨⟨trivial,Tryz.func178,trivial⟩,Tryz.func179,trivial⟩,Tryz.func180,⟨trivial,Tryz.func181,trivial⟩⟩,Tryz.func182,⟨⟨⟨trivial,Tryz.func183,trivial⟩,Tryz.func184,trivial⟩,Tryz.func185,⟨trivial,Tryz.func186,trivial⟩⟩⟩,Tryz.func187,⟨⟨⟨⟨trivial,Tryz.func188,trivial⟩,Tryz.func189,trivial⟩,Tryz.func190,⟨trivial,Tryz.func191,trivial⟩⟩,Tryz.func192,⟨⟨⟨trivial,Tryz.func193,trivial⟩,Tryz.func194,trivial⟩,Tryz.func195,⟨trivial,Tryz.func196,trivial⟩⟩⟩⟩⟩,Tryz.func197,⟨⟨⟨⟨⟨⟨trivial,Tryz.func198,trivial⟩,Tryz.func199,trivial⟩,Tryz.func200,⟨trivial,Tryz.func201,trivial⟩⟩,Tryz.func202,⟨⟨⟨trivial,Tryz.func203,trivial⟩,Tryz.func204,trivial⟩,Tryz.func205,⟨trivial,Tryz.func206,trivial⟩⟩⟩,Tryz.func207,⟨⟨⟨⟨trivial,Tryz.func208,trivial⟩,Tryz.func209,trivial⟩,Tryz.func210,⟨trivial,Tryz.func211,trivial⟩⟩,Tryz.func212,⟨⟨⟨trivial,Tryz.func213,trivial⟩,Tryz.func214,trivial⟩,Tryz.func215,⟨trivial,Tryz.func216,trivial⟩⟩⟩⟩,Tryz.func217,⟨⟨⟨⟨⟨trivial,Tryz.func218,trivial⟩,Tryz.func219,trivial⟩,Tryz.func220,⟨trivial,Tryz.func221,trivial⟩⟩,Tryz.func222,⟨⟨⟨trivial,Tryz.func223,trivial⟩,Tryz.func224,trivial⟩,Tryz.func225,⟨trivial,Tryz.func226,trivial⟩⟩⟩,Tryz.func227,⟨⟨⟨⟨trivial,Tryz.func228,trivial⟩,Tryz.func229,trivial⟩,Tryz.func230,⟨trivial,Tryz.func231,trivial⟩⟩,Tryz.func232,⟨⟨trivial,Tryz.func233,trivial⟩,Tryz.func234,⟨trivial,Tryz.func235,trivial⟩⟩⟩⟩⟩⟩,Tryz.func236,⟨⟨⟨⟨⟨⟨⟨trivial,Tryz.func237,trivial⟩,Tryz.func238,trivial⟩,Tryz.func239,⟨trivial,Tryz.func240,trivial⟩⟩,Tryz.func241,⟨⟨⟨trivial,Tryz.func242,trivial⟩,Tryz.func243,trivial⟩,Tryz.func244,⟨trivial,Tryz.func245,trivial⟩⟩⟩,Tryz.func246,⟨⟨⟨⟨trivial,Tryz.func247,trivial⟩,Tryz.func248,trivial⟩,Tryz.func249,⟨trivial,Tryz.func250,trivial⟩⟩,Tryz.func251,⟨⟨⟨trivial,Tryz.func252,trivial⟩,Tryz.func253,trivial⟩,Tryz.func254,⟨trivial,Tryz.func255,trivial⟩⟩⟩⟩,Tryz.func256,⟨⟨⟨⟨⟨trivial,Tryz.func257,trivial⟩,Tryz.func258,trivial⟩,Tryz.func259,⟨trivial,Tryz.func260,trivial⟩⟩,Tryz.func261,⟨⟨⟨trivial,Tryz.func262,trivial⟩,Tryz.func263,trivial⟩,Tryz.func264,⟨trivial,Tryz.func265,trivial⟩⟩⟩,Tryz.func266,⟨⟨⟨⟨trivial,Tryz.func267,trivial⟩,Tryz.func268,trivial⟩,Tryz.func269,⟨trivial,Tryz.func270,trivial⟩⟩,Tryz.func271,⟨⟨trivial,Tryz.func272,trivial⟩,Tryz.func273,⟨trivial,Tryz.func274,trivial⟩⟩⟩⟩⟩,Tryz.func275,⟨⟨⟨⟨⟨⟨trivial,Tryz.func276,trivial⟩,Tryz.func277,trivial⟩,Tryz.func278,⟨trivial,Tryz.func279,trivial⟩⟩,Tryz.func280,⟨⟨⟨trivial,Tryz.func281,trivial⟩,Tryz.func282,trivial⟩,Tryz.func283,⟨trivial,Tryz.func284,trivial⟩⟩⟩,Tryz.func285,⟨⟨⟨⟨trivial,Tryz.func286,trivial⟩,Tryz.func287,trivial⟩,Tryz.func288,⟨trivial,Tryz.func289,trivial⟩⟩,Tryz.func290,⟨⟨⟨trivial,Tryz.func291,trivial⟩,Tryz.func292,trivial⟩,Tryz.func293,⟨trivial,Tryz.func294,trivial⟩⟩⟩⟩,Tryz.func295,⟨⟨⟨⟨⟨trivial,Tryz.func296,trivial⟩,Tryz.func297,trivial⟩,Tryz.func298,⟨trivial,Tryz.func299,trivial⟩⟩,Tryz.func300,⟨⟨⟨trivial,Tryz.func301,trivial⟩,Tryz.func302,trivial⟩,Tryz.func303,⟨trivial,Tryz.func304,trivial⟩⟩⟩,Tryz.func305,⟨⟨⟨⟨trivial,Tryz.func306,trivial⟩,Tryz.func307,trivial⟩,Tryz.func308,⟨trivial,Tryz.func309,trivial⟩⟩,Tryz.func310,⟨⟨trivial,Tryz.func311,trivial⟩,Tryz.func312,⟨trivial,Tryz.func313,trivial⟩⟩⟩⟩⟩⟩⟩⟩
theorem tabOk:TabOk Tryz.prog T0:=TabOk.of t_ok f_ok n_ok e_ok
end Go.Proofs.YtcmepkfefoidcaaGreatDoor
namespace Go.AE
section
variable {P:Program} {T:Tab}
theorem V.agree {w:World} {m m':Mp} {n:Nat} (hI:∀ b,m.I b→m'.I b) (hρ:∀ r,r<n→m'.ρ r=m.ρ r) (hL:∀ r,r<n→m'.L r=m.L r)
  {a:AV} {u:Value} (h:V w m a u) (hc:a.cl n=true):V w m' a u:=by
 induction h with
 | p v u h=>exact .p v u (h.mono hI (fun _ _=>rfl))
 | ptr r ver i j off sz cap h hi =>
  have hr:r<n:=by simpa [AV.cl] using hc
  rw [← hρ r hr]
  exact .ptr (m:=m') r ver i j off sz cap (by rw [hL r hr,h]) hi
 | ptrOld r ver i j off b o h =>
  have hr:r<n:=by simpa [AV.cl] using hc
  exact .ptrOld (m:=m') r ver i j off b o (by rw [hL r hr];exact h)
 | slr r ver off k N sz cap h hn =>
  have hr:r<n:=by simpa [AV.cl] using hc
  rw [← hρ r hr]
  exact .slr (m:=m') r ver off k N sz cap (by rw [hL r hr,h]) hn
 | slrNil r ver a h =>
  have hr:r<n:=by simpa [AV.cl] using hc
  exact .slrNil (m:=m') r ver a (by rw [hL r hr,h])
 | slrEnd r ver N sz cap a h =>
  have hr:r<n:=by simpa [AV.cl] using hc
  exact .slrEnd (m:=m') r ver N sz cap a (by rw [hL r hr,h])
 | slrOld r ver off k ad c h =>
  have hr:r<n:=by simpa [AV.cl] using hc
  exact .slrOld (m:=m') r ver off k ad c (by rw [hL r hr];exact h)
 | rop cs off b o u hb h1 h2=>exact .rop (m:=m') cs off b o u (hI _ hb) h1 (fun j hj=>(h2 j hj).mono hI (fun _ _=>rfl))
 | fn f first cap A B hA hB h1 h2 ih1 ih2 =>
  simp only [AV.cl,Bool.and_eq_true] at hc
  exact .fn f first cap A B hA hB (fun j hj hj'=>ih1 j hj hj' (AV.cls_get hc.1 j hj)) (fun j hj hj'=>ih2 j hj hj' (AV.cls_get hc.2 j hj))
 | iface t v u h ih=>exact .iface t v u (ih hc)
 | agg cs A hA h ih=>exact .agg cs A hA (fun j hj hj'=>ih j hj hj' (AV.cls_get hc j hj))
 | tup cs A hA h ih=>exact .tup cs A hA (fun j hj hj'=>ih j hj hj' (AV.cls_get hc j hj))
 | yld r sz cap h =>
  have hr:r<n:=by simpa [AV.cl] using hc
  rw [← hρ r hr]
  exact .yld (m:=m') r sz cap (by rw [hL r hr,h])
 | yldOld r b h =>
  have hr:r<n:=by simpa [AV.cl] using hc
  exact .yldOld (m:=m') r b (by rw [hL r hr];exact h)
 | mref r sz cap h =>
  have hr:r<n:=by simpa [AV.cl] using hc
  rw [← hρ r hr]
  exact .mref (m:=m') r sz cap (by rw [hL r hr,h])
 | mrefOld r b h =>
  have hr:r<n:=by simpa [AV.cl] using hc
  exact .mrefOld (m:=m') r b (by rw [hL r hr];exact h)
 | junk u=>exact .junk u
theorem BlkOk.agree {w:World} {m m':Mp} {n:Nat} (hI:∀ b,m.I b→m'.I b) (hρ:∀ r,r<n→m'.ρ r=m.ρ r) (hL:∀ r,r<n→m'.L r=m.L r)
  {l:Inf} {g:Nat} {b:ABlk} (h:BlkOk w m l g b) (hc:b.cl n):BlkOk w m' l g b:=by
 cases b with
 | absent=>exact h
 | dead=>exact h
 | box ty cs =>
  obtain⟨hl,c,h1,h2,h3⟩:=h
  exact⟨hl,c,h1,h2,fun j hj=>let ⟨u,a,b⟩:=h3 j hj;⟨u,a,b.agree hI hρ hL (AV.cls_get hc j hj)⟩⟩
 | arr ty sz ver k f =>
  rcases h with h|⟨cap,c,hl,h0,h00,h1,h2,h3⟩
  ·exact .inl h
  exact .inr ⟨cap,c,hl,h0,h00,h1,h2,fun i hi=>⟨(h3 i hi).1,fun j hj=>let ⟨u,a,b⟩:=(h3 i hi).2 j hj;⟨u,a,b.agree hI hρ hL (AV.cls_get (hc i hi) j hj)⟩⟩⟩
 | lp s env N ps asg bd =>
  obtain⟨hl,p,fn,tmps,D,h1,h2,h3,h4⟩:=h
  exact⟨hl,p,fn,tmps,D,h1,h2,h3,fun d=>(h4 d).agree hI hρ hL (clE_look hc d)⟩
 | mp kt q st =>
  obtain⟨hl,es,clock,r,h1,h2⟩:=h
  exact⟨hl,es,clock,r,h1,h2.mono fun κ a u hg hv=>hv.agree hI hρ hL (hc κ a hg)⟩
theorem hp_append (K X:List ABlk) (r:Nat):hp (K++X) r=if r<K.length then hp K r else hp X (r - K.length):=by
 induction K generalizing r with
 | nil=>simp
 | cons b K ih =>
  cases r with
  | zero=>simp [hp,nth]
  | succ r =>
   have:=ih r
   simp only [hp,nth,List.cons_append,List.length_cons] at this ⊢
   rw [this]
   by_cases h:r<K.length
   ·rw [if_pos h,if_pos (by omega)]
   ·rw [if_neg h,if_neg (by omega)]
    congr 2;omega
theorem hp_ge (K:List ABlk) (r:Nat) (h:K.length≤r):hp K r=.absent:=by
 have:=hp_append K [] r
 rw [List.append_nil,if_neg (by omega)] at this
 rw [this];rfl
theorem hp_takeN (K:List ABlk) (n r:Nat):hp (takeN K n) r=if r<n then hp K r else .absent:=by
 induction K generalizing n r with
 | nil=>cases n<;>simp [takeN,hp,nth]
 | cons b K ih =>
  cases n with
  | zero=>simp [takeN,hp,nth]
  | succ n =>
   cases r with
   | zero=>simp [takeN,hp,nth]
   | succ r =>
    have:=ih n r
    simp only [hp,takeN,nth] at this ⊢
    rw [this]
    by_cases h:r<n
    ·rw [if_pos h,if_pos (by omega)]
    ·rw [if_neg h,if_neg (by omega)]
theorem takeN_zero {α:Type} (l:List α):takeN l 0=[]:=by cases l<;>rfl
theorem len_length {α:Type} (l:List α):len l=l.length:=by
 induction l with
 | nil=>rfl
 | cons a l ih=>simp [len,ih]
theorem takeN_length {α:Type} (l:List α) (n:Nat) (h:n≤l.length):(takeN l n).length=n:=by
 induction l generalizing n with
 | nil=>simp at h;subst h;rfl
 | cons a l ih =>
  cases n with
  | zero=>rfl
  | succ n=>simp only [takeN,List.length_cons];rw [ih n (by simpa using h)]
theorem St.ge {w:World} {m:Mp} {K:List ABlk} (h:St w m (hp K)) (r:Nat) (hr:K.length≤r):m.L r=.absent:=h.absent (hp_ge K r hr)
theorem ACalls.mono {f:FuncId} {args:List AV} {K:List ABlk} {k k':AO→List ABlk→Prop} (h:ACalls P f args K k) (hk:∀ ao K',k ao K'→k' ao K'):ACalls P f args K k':=by
 refine⟨h.1,fun w m Args hS hV=>(h.2 w m Args hS hV).mono fun e w' he=>?_⟩
 cases e with
 | returned u=>obtain⟨m',a,K',h1,h2,h3,h4⟩:=he;exact⟨m',a,K',h1,h2,h3,hk _ _ h4⟩
 | panicked ch=>obtain⟨m',a,u,K',h0,h1,h2,h3,h4⟩:=he;exact⟨m',a,u,K',h0,h1,h2,h3,hk _ _ h4⟩
 | outgrown=>exact he.elim
def Wk (bs:List AV) (K:List ABlk) (bs':List AV) (K':List ABlk):Prop :=
 ∀ w m Args,St w m (hp K)→VL w m bs Args→∃ m',Tr w m w m'∧St w m' (hp K')∧VL w m' bs' Args
def Wk1 (n:Nat) (a:AV) (K:List ABlk) (a':AV) (K':List ABlk):Prop :=
 ∀ w m u we me,Tr we me w m→(∀ r,n≤r→me.L r=.absent)→St w m (hp K)→V w m a u→∃ m',Tr we me w m'∧St w m' (hp K')∧V w m' a' u
theorem ACalls.pre {f:FuncId} {args args':List AV} {K K':List ABlk} {k:AO→List ABlk→Prop} (h:ACalls P f args' K' k) (hw:Wk args K args' K'):ACalls P f args K k:=by
 refine⟨h.1,fun w m Args hS hV=>?_⟩
 obtain⟨m',hT,hS',hV'⟩:=hw w m Args hS hV
 refine (h.2 w m' Args hS' hV').mono fun e w' he=>?_
 cases e with
 | returned u=>obtain⟨m2,a,K2,h1,h2,h3,h4⟩:=he;exact⟨m2,a,K2,hT.trans h1,h2,h3,h4⟩
 | panicked ch=>obtain⟨m2,a,u,K2,h0,h1,h2,h3,h4⟩:=he;exact⟨m2,a,u,K2,h0,hT.trans h1,h2,h3,h4⟩
 | outgrown=>exact he.elim
def AO.val:AO→AV
 | .ret v=>v
 | .pan v=>v
def AO.with (a:AV):AO→AO
 | .ret _=>.ret a
 | .pan _=>.pan a
theorem ACalls.post {f:FuncId} {args:List AV} {K:List ABlk} {k k':AO→List ABlk→Prop} (h:ACalls P f args K k)
  (hk:∀ ao K1,k ao K1→∃ a' K2,Wk1 K.length ao.val K1 a' K2∧k' (ao.with a') K2):ACalls P f args K k':=by
 refine⟨h.1,fun w m Args hS hV=>(h.2 w m Args hS hV).mono fun e w' he=>?_⟩
 cases e with
 | returned u =>
  obtain⟨m',a,K',h1,h2,h3,h4⟩:=he
  obtain⟨a',K2,hw,hk2⟩:=hk _ _ h4
  obtain⟨m2,h5,h6,h7⟩:=hw _ _ _ _ _ h1 (fun r hr=>hS.ge r hr) h2 h3
  exact⟨m2,a',K2,h5,h6,h7,hk2⟩
 | panicked ch =>
  obtain⟨m',a,u,K',h0,h1,h2,h3,h4⟩:=he
  obtain⟨a',K2,hw,hk2⟩:=hk _ _ h4
  obtain⟨m2,h5,h6,h7⟩:=hw _ _ _ _ _ h1 (fun r hr=>hS.ge r hr) h2 h3
  exact⟨m2,a',u,K2,h0,h5,h6,h7,hk2⟩
 | outgrown=>exact he.elim
def deads:Nat→List ABlk
 | 0=>[]
 | n+1=>.dead::deads n
theorem deads_length (n:Nat):(deads n).length=n:=by
 induction n with
 | zero=>rfl
 | succ n ih=>simp [deads,ih]
theorem hp_deads (n r:Nat) (h:r<n):hp (deads n) r=.dead:=by
 induction n generalizing r with
 | zero=>omega
 | succ n ih =>
  cases r with
  | zero=>rfl
  | succ r=>exact ih r (by omega)
def frameK (n:Nat) (k:AO→List ABlk→Prop):AO→List ABlk→Prop
 | .ret a,K=>a.cl n=true∧n≤K.length∧(∀ r,r<n→(hp K r).cl n)∧k (.ret a) (takeN K n)
 | .pan a,_=>a.cl 0=true∧k (.pan a) (deads n)
def Mp.glue (n:Nat) (m m':Mp) (L:Nat→Inf):Mp:=⟨fun r=>if r<n then m'.ρ r else m.ρ r,m'.I,fun r=>if r<n then L r else m.L r⟩
theorem glue_ok {n:Nat} {w w':World} {m m':Mp} {K0 K1 X:List ABlk} {L:Nat→Inf} (hn:K0.length=n) (hn1:K1.length=n) (hS:St w m (hp (K0++X)))
  (hT:Tr w (m.cut n) w' m') {H:Nat→ABlk} (hS':St w' m' H)
  (hL:∀ r,r<n→(L r).isLive→L r=m'.L r)
  (hstep:∀ r,r<n→(m.L r).step (L r) (m'.ρ r=m.ρ r))
  (hblk:∀ r,r<n→BlkOk w' (m.glue n m' L) (L r) (m'.ρ r) (hp K1 r)) :
  Tr w m w' (m.glue n m' L)∧St w' (m.glue n m' L) (hp (K1++X)):=by
 have hcl:∀ r,r<n→(m.cut n).L r=m.L r:=fun r hr=>by simp [Mp.cut,hr]
 have hcg:∀ r,¬ r<n→(m.cut n).L r=.absent:=fun r hr=>by simp [Mp.cut,hr]
 have hlt:∀ r,((m.cut n).L r).isLive→r<n∧(m.L r).isLive:=fun r h=>by
  by_cases hr:r<n
  ·rw [hcl r hr] at h;exact⟨hr,h⟩
  ·rw [hcg r hr] at h;exact h.elim
 have hsep:∀ r r',r<n→((L r).isLive)→¬ r'<n→(m.L r').isLive→m'.ρ r≠m.ρ r':=fun r r' hr hl hr' hl' e=>by
  have hl2:(m'.L r).isLive:=hL r hr hl▸hl
  rcases hT.newρ r hl2 with ⟨h1,h2⟩|h1
  ·have h3:=(hlt r h1).2
   have:m.ρ r=m.ρ r':=by rw [← e];exact h2.symm
   exact hr' (hS.inj r r' h3 hl' this▸hr)
  ·have:=hS.lt r' hl';omega
 have hTr:Tr w m w' (m.glue n m' L):={
  os:=hT.os
  tape:=hT.tape
  output:=hT.output
  size:=hT.size
  out:=fun b hb hr=>hT.out b hb fun r hl=>hr r (hlt r hl).2
  imm:=fun b hb=>hT.imm b hb
  same:=fun b hb=>hT.same b hb
  newI:=fun b hb=>by
   rcases hT.newI b hb with h|⟨r,h1,h2⟩|h
   ·exact .inl h
   ·exact .inr (.inl ⟨r,(hlt r h1).2,h2⟩)
   ·exact .inr (.inr h)
  step:=fun r=>by
   by_cases hr:r<n
   ·simp only [Mp.glue,hr,if_true];exact hstep r hr
   ·simp only [Mp.glue,hr,if_false];exact Inf.step_refl _ _ trivial
  newρ:=fun r hl=>by
   by_cases hr:r<n
   ·simp only [Mp.glue,hr,if_true] at hl ⊢
    rcases hT.newρ r (hL r hr hl▸hl) with ⟨h1,h2⟩|h1
    ·exact .inl ⟨(hlt r h1).2,h2⟩
    ·exact .inr h1
   ·simp only [Mp.glue,hr,if_false] at hl ⊢;exact .inl ⟨hl,trivial⟩ }
 refine⟨hTr,?_,?_,?_,hS'.Ilt,hS'.gl,?_⟩
 ·intro r r' h1 h2 e
  by_cases hr:r<n<;>by_cases hr':r'<n<;>simp only [Mp.glue,hr,hr',if_true,if_false] at h1 h2 e
  ·exact hS'.inj r r' (hL r hr h1▸h1) (hL r' hr' h2▸h2) e
  ·exact absurd e (hsep r r' hr h1 hr' h2)
  ·exact absurd e.symm (hsep r' r hr' h2 hr h1)
  ·exact hS.inj r r' h1 h2 e
 ·intro r h1 hI
  by_cases hr:r<n<;>simp only [Mp.glue,hr,if_true,if_false] at h1 hI
  ·exact hS'.notI r (hL r hr h1▸h1) hI
  ·rcases hT.newI _ hI with h|⟨r0,h2,h3⟩|h
   ·exact hS.notI r h1 h
   ·have h4:=hlt r0 h2
    exact hr (hS.inj r0 r h4.2 h1 h3▸h4.1)
   ·have:=hS.lt r h1;omega
 ·intro r h1
  by_cases hr:r<n<;>simp only [Mp.glue,hr,if_true,if_false] at h1 ⊢
  ·exact hS'.lt r (hL r hr h1▸h1)
  ·have:=hS.lt r h1;have:=hT.size;omega
 ·intro r
  rw [hp_append,hn1]
  by_cases hr:r<n
  ·have:=hblk r hr
   rw [if_pos hr]
   have e1:(m.glue n m' L).L r=L r:=by simp [Mp.glue,hr]
   have e2:(m.glue n m' L).ρ r=m'.ρ r:=by simp [Mp.glue,hr]
   rw [e1,e2];exact this
  ·rw [if_neg hr]
   have e1:(m.glue n m' L).L r=m.L r:=by simp [Mp.glue,hr]
   have e2:(m.glue n m' L).ρ r=m.ρ r:=by simp [Mp.glue,hr]
   rw [e1,e2]
   have hb:=hS.blk r
   rw [hp_append,hn,if_neg hr] at hb
   by_cases hl:(m.L r).isLive
   ·refine hb.mono (hT.out _ (hS.lt r hl) fun r0 h0 e=>?_) (fun _ _ hv=>hv.mono hTr)
    have h4:=hlt r0 h0
    exact hr (hS.inj r0 r h4.2 hl e▸h4.1)
   ·exact hb.nolive hl
theorem ACalls.frame {f:FuncId} {args:List AV} {K0 X:List ABlk} {k:AO→List ABlk→Prop} (hc:AV.cls K0.length args=true) (hb:∀ r,r<K0.length→(hp K0 r).cl K0.length)
  (h:ACalls P f args K0 (frameK K0.length k)):ACalls P f args (K0++X) (fun ao K=>∃ K1,K=K1++X∧k ao K1):=by
 refine⟨h.1,fun w m Args hS hV=>?_⟩
 have hH:(fun r=>if r<K0.length then hp (K0++X) r else .absent)=hp K0:=by
  funext r
  by_cases hr:r<K0.length
  ·rw [if_pos hr,hp_append,if_pos hr]
  ·rw [if_neg hr,hp_ge _ _ (by omega)]
 have hS0:St w (m.cut K0.length) (hp K0):=by
  have:=hS.cut K0.length (fun r hr=>by rw [hp_append,if_pos hr];exact hb r hr)
  rwa [hH] at this
 have hV0:VL w (m.cut K0.length) args Args:=⟨hV.1,fun j hj hj'=>(hV.2 j hj hj').cut _ (AV.cls_get hc j hj)⟩
 refine (h.2 w (m.cut K0.length) Args hS0 hV0).mono fun e w' he=>?_
 cases e with
 | returned u =>
  obtain⟨m',a,K',h1,h2,h3,h4,h5,h6,h7⟩:=he
  have hagI:∀ b,m'.I b→(m.glue K0.length m' m'.L).I b:=fun b hb=>hb
  have hagρ:∀ r,r<K0.length→(m.glue K0.length m' m'.L).ρ r=m'.ρ r:=fun r hr=>by simp [Mp.glue,hr]
  have hagL:∀ r,r<K0.length→(m.glue K0.length m' m'.L).L r=m'.L r:=fun r hr=>by simp [Mp.glue,hr]
  have hg:=glue_ok (n:=K0.length) (K1:=takeN K' K0.length) (L:=m'.L) rfl (takeN_length _ _ h5) hS h1 h2 (fun r _ _=>rfl)
   (fun r hr=>by have:=h1.step r;simpa [Mp.cut,hr] using this)
   (fun r hr=>by rw [hp_takeN,if_pos hr];exact (h2.blk r).agree hagI hagρ hagL (h6 r hr))
  exact⟨_,a,takeN K' K0.length++X,hg.1,hg.2,h3.agree hagI hagρ hagL h4,_,rfl,h7⟩
 | panicked ch =>
  obtain⟨m',a,u,K',h0,h1,h2,h3,h4,h7⟩:=he
  have hg:=glue_ok (n:=K0.length) (K1:=deads K0.length) (L:=fun _=>.dead) rfl (deads_length _) hS h1 h2 (fun r _ hl=>hl.elim)
   (fun r hr=>by
    cases hL:m.L r with
    | absent=>trivial
    | dead=>rfl
    | nil=>exact .inl rfl
    | live=>exact .inl rfl)
   (fun r hr=>by rw [hp_deads _ _ hr];rfl)
  exact⟨_,a,u,deads K0.length++X,h0,hg.1,hg.2,h3.agree (n:=0) (m:=m') (m':=m.glue K0.length m' fun _=>.dead) (fun b hb=>hb) (fun r hr=>by omega) (fun r hr=>by omega) h4,_,rfl,h7⟩
 | outgrown=>exact he.elim
def AV.le (a b:AV):Prop:=∀ w m u,V w m a u→V w m b u
theorem AV.le_refl (a:AV):a.le a:=fun _ _ _ h=>h
theorem AV.le_junk (a:AV):a.le .junk:=fun _ _ u _=>.junk u
theorem AV.le_of_eq {a b:AV} (h:a=b):a.le b:=h▸AV.le_refl a
theorem AV.nils_le (sz:Nat) (f:Nat→List PV):(AV.p .nils).le (.p (.sl sz 0 f)):=fun w m u h=>by
 cases h with
 | p _ _ h=>cases h;exact .p _ _ (.sl0 sz f none 0)
theorem AV.sl_le {sz n n':Nat} {f f':Nat→List PV} (hn:n'=n) (h:∀ i,i<n→f' i=f i):(AV.p (.sl sz n f)).le (.p (.sl sz n' f')):=fun w m u hv=>by
 subst hn
 cases hv with
 | p _ _ hv =>
  cases hv with
  | sl0 _ _ a c=>exact .p _ _ (.sl0 sz f' a c)
  | sl _ _ _ b o c u hI hcap hc hv =>
   refine .p _ _ (.sl sz n' f' b o c u hI hcap (fun i hi j hj=>?_) (fun i hi=>?_))
   ·exact hc i hi j (by rw [← h i hi];exact hj)
   ·rw [h i hi];exact hv i hi
def lesL:List AV→List AV→Prop
 | [],[]=>True
 | a::l,b::l'=>a.le b∧lesL l l'
 | _,_=>False
theorem lesL.get {l l':List AV} (h:lesL l l'):l.length=l'.length∧∀ j (hj:j<l.length) (hj':j<l'.length),l[j].le l'[j]:=by
 induction l generalizing l' with
 | nil=>cases l' with
  | nil=>exact⟨rfl,fun j hj=>by simp at hj⟩
  | cons b l'=>exact h.elim
 | cons a l ih=>cases l' with
  | nil=>exact h.elim
  | cons b l' =>
   obtain⟨h1,h2⟩:=ih h.2
   refine⟨by simp [h1],fun j hj hj'=>?_⟩
   cases j with
   | zero=>exact h.1
   | succ j=>exact h2 j (by simpa using hj) (by simpa using hj')
theorem lesL.refl (l:List AV):lesL l l:=by
 induction l with
 | nil=>trivial
 | cons a l ih=>exact⟨AV.le_refl a,ih⟩
def ABlk.le (b b':ABlk):Prop:=∀ w m l g,BlkOk w m l g b→BlkOk w m l g b'
theorem ABlk.le_refl (b:ABlk):b.le b:=fun _ _ _ _ h=>h
theorem ABlk.le_of_eq {a b:ABlk} (h:a=b):a.le b:=h▸ABlk.le_refl a
theorem ABlk.arr_le {ty:TypeId} {sz ver n n':Nat} {f f':Nat→List AV} (hn:n'=n) (h:∀ i,i<n→lesL (f i) (f' i)):(ABlk.arr ty sz ver n f).le (.arr ty sz ver n' f'):=fun w m l g hb=>by
 subst hn
 rcases hb with hb|⟨cap,c,hl,h0,h00,hc,hs,hv⟩
 ·exact .inl hb
 refine .inr ⟨cap,c,hl,h0,h00,hc,hs,fun i hi=>?_⟩
 obtain⟨h1,h2⟩:=(h i hi).get
 obtain⟨h3,h4⟩:=hv i hi
 refine⟨by omega,fun j hj=>?_⟩
 obtain⟨u,hu,hv⟩:=h4 j (by omega)
 exact⟨u,hu,h2 j (by omega) hj _ _ _ hv⟩
theorem ABlk.arr_eq {ty:TypeId} {sz ver n n':Nat} {f f':Nat→List AV} (hn:n'=n) (h:∀ i,i<n→f i=f' i):(ABlk.arr ty sz ver n f).le (.arr ty sz ver n' f') :=
 ABlk.arr_le hn fun i hi=>h i hi▸lesL.refl _
def lesK:List ABlk→List ABlk→Prop
 | [],[]=>True
 | a::l,b::l'=>a.le b∧lesK l l'
 | _,_=>False
theorem lesK.refl (l:List ABlk):lesK l l:=by
 induction l with
 | nil=>trivial
 | cons a l ih=>exact⟨ABlk.le_refl a,ih⟩
theorem lesK.hp {K K':List ABlk} (h:lesK K K') (r:Nat):(hp K r).le (hp K' r):=by
 induction K generalizing K' r with
 | nil=>cases K' with
  | nil=>exact ABlk.le_refl _
  | cons b l'=>exact h.elim
 | cons a l ih=>cases K' with
  | nil=>exact h.elim
  | cons b l' =>
   cases r with
   | zero=>exact h.1
   | succ r=>exact ih h.2 r
theorem lesK.head {K L:List ABlk} {n:Nat} (h:lesK (takeN K n) L):lesK K (L++dropN K n):=by
 induction n generalizing K L with
 | zero =>
  have e:takeN K 0=[]:=by cases K<;>rfl
  rw [e] at h
  cases L with
  | nil =>
   have e:dropN K 0=K:=by cases K<;>rfl
   rw [e];exact lesK.refl _
  | cons=>exact h.elim
 | succ n ih =>
  cases K with
  | nil =>
   cases L with
   | nil=>trivial
   | cons=>exact h.elim
  | cons b K =>
   cases L with
   | nil=>exact h.elim
   | cons c L=>exact⟨h.1,ih h.2⟩
theorem St.les {w:World} {m:Mp} {K K':List ABlk} (hS:St w m (hp K)) (h:lesK K K'):St w m (hp K') :=
 ⟨hS.inj,hS.notI,hS.lt,hS.Ilt,hS.gl,fun r=>h.hp r _ _ _ _ (hS.blk r)⟩
theorem Le.trans {kb:Nat} {s s' s'':AS} (h:Le kb s s') (h':Le kb s' s''):Le kb s s'':=fun we me hk w m tmps hT hS hE=>by
 obtain⟨m',h1,h2,h3,h4⟩:=h we me hk w m tmps hT hS hE
 obtain⟨m2,k1,k2,k3,k4⟩:=h' we me hk w m' tmps h1 h2 h3
 exact⟨m2,k1,k2,k3,h4.trans k4⟩
def subE (t:List (Nat×AV)):List (Nat×AV)→Prop
 | []=>True
 | (d,v)::r=>(look t d).le v∧subE t r
theorem subE.look {t t':List (Nat×AV)} (h:subE t t') (d:Nat):(look t d).le (look t' d):=by
 induction t' with
 | nil=>exact AV.le_junk _
 | cons x r ih =>
  obtain⟨j,v⟩:=x
  rw [look_cons]
  by_cases e:j=d
  ·subst e;rw [if_pos rfl];exact h.1
  ·rw [if_neg e];exact ih h.2
theorem Le.env {kb:Nat} {t t':List (Nat×AV)} {K K':List ABlk} (h:subE t t') (hK:lesK K K'):Le kb ⟨t,K⟩ ⟨t',K'⟩:=fun _ _ _ _ m _ hT hS hE =>
 ⟨m,hT,hS.les hK,fun d=>h.look d _ _ _ (hE d),.refl m⟩
theorem clE.look {n:Nat} {t:List (Nat×AV)} (h:clE n t=true) (d:Nat):(look t d).cl n=true:=clE_look h d
def clK (n:Nat):List ABlk→Prop
 | []=>True
 | b::r=>b.cl n∧clK n r
theorem clK.hp {n:Nat} {K:List ABlk} (h:clK n K) (r:Nat):(hp K r).cl n:=by
 induction K generalizing r with
 | nil=>exact trivial
 | cons b K ih =>
  cases r with
  | zero=>exact h.1
  | succ r=>exact ih h.2 r
theorem cut_St {w:World} {m:Mp} {K:List ABlk} {n:Nat} (hS:St w m (hp K)) (h:clK n (takeN K n)):St w (m.cut n) (hp (takeN K n)):=by
 have hcl:∀ r,r<n→(hp K r).cl n:=fun r hr=>by
  have:=clK.hp h r
  rwa [hp_takeN,if_pos hr] at this
 have:=hS.cut n hcl
 have e:(fun r=>if r<n then hp K r else .absent)=hp (takeN K n):=by
  funext r;rw [hp_takeN]
 rwa [e] at this
theorem Le.cut {kb n:Nat} {t:List (Nat×AV)} {K:List ABlk} (hn:Nat.ble kb n=true) (ht:clE n t=true) (hK:clK n (takeN K n)):Le kb ⟨t,K⟩ ⟨t,takeN K n⟩:=fun _ _ hk _ m _ hT hS hE =>
 ⟨m.cut n,hT.cut n (fun r hr=>hk r (Nat.le_trans (Nat.le_of_ble_eq_true hn) hr)),cut_St hS hK,fun d=>(hE d).cut n (clE.look ht d),.cut m n⟩
theorem Wk1.cut {n:Nat} {a:AV} {K:List ABlk} (k:Nat) (hn:n≤k) (ha:a.cl k=true) (hK:clK k (takeN K k)):Wk1 n a K a (takeN K k):=fun _ m _ _ _ hT hk hS hV =>
 ⟨m.cut k,hT.cut k (fun r hr=>hk r (by omega)),cut_St hS hK,hV.cut k ha⟩
theorem Wk1.refl (n:Nat) (a:AV) (K:List ABlk):Wk1 n a K a K:=fun _ m _ _ _ hT _ hS hV=>⟨m,hT,hS,hV⟩
theorem Wk1.le {n:Nat} {a a':AV} {K K':List ABlk} (h:a.le a') (hK:lesK K K'):Wk1 n a K a' K':=fun _ m _ _ _ hT _ hS hV=>⟨m,hT,hS.les hK,h _ _ _ hV⟩
theorem Wk.le {bs bs':List AV} {K K':List ABlk} (h:lesL bs bs') (hK:lesK K K'):Wk bs K bs' K':=fun w m us hS hV =>
 ⟨m,Tr.refl w m,hS.les hK,by
  obtain⟨h1,h2⟩:=h.get
  exact⟨h1▸hV.1,fun j hj hj'=>h2 j (by omega) hj _ _ _ (hV.2 j (by omega) hj')⟩⟩
theorem upd_setN {K:List ABlk} {r:Nat} (b:ABlk) (hr:r<K.length):upd (hp K) r b=hp (setN K r b):=by
 induction K generalizing r with
 | nil=>simp at hr
 | cons c K ih =>
  funext j
  cases r with
  | zero=>cases j<;>simp [upd,hp,setN,nth]
  | succ r =>
   cases j with
   | zero=>simp [upd,hp,setN,nth]
   | succ j =>
    have:=congrFun (ih (r:=r) (by simpa using hr)) j
    simp only [upd,hp,setN,nth] at this ⊢
    rw [← this]
    simp
theorem nth_lt {α:Type} {l:List α} {r:Nat} {b:α} (h:nth l r=some b):r<l.length:=by
 induction l generalizing r with
 | nil=>simp [nth] at h
 | cons a l ih =>
  cases r with
  | zero=>simp
  | succ r=>simp only [nth] at h;have:=ih h;simp;omega
def Mp.kill (m:Mp) (r:Nat):Mp:={ m with L:=fun k=>if k=r then .dead else m.L k }
theorem Tr.kill {w:World} {m:Mp} {r v:Nat} (hr:m.L r=.nil v):Tr w m w (m.kill r) where
 os:=rfl
 tape:=rfl
 output:=rfl
 size:=Nat.le_refl _
 out:=fun _ _ _=>rfl
 imm:=fun _ h=>h
 same:=fun _ _=>rfl
 newI:=fun _ h=>.inl h
 step:=fun k=>by
  simp only [Mp.kill]
  by_cases hk:k=r
  ·subst hk;simp only [if_true];rw [hr];exact .inl rfl
  ·simp only [hk,if_false];exact Inf.step_refl _ _ trivial
 newρ:=fun k hk=>by
  simp only [Mp.kill] at hk ⊢
  by_cases hk':k=r
  ·subst hk';simp [Inf.isLive] at hk
  ·simp only [hk',if_false] at hk;exact .inl ⟨hk,trivial⟩
theorem freeze_sl {w:World} {m:Mp} {K:List ABlk} {r ty sz ver n:Nat} {f:Nat→List AV} (hS:St w m (hp K)) (hr:nth K r=some (.arr ty sz ver n f)) (g:Nat→List PV) (hg:∀ i,i<n→f i=pvs (g i)) :
  ∃ m',Tr w m w m'∧St w m' (hp (setN K r .dead))∧(∀ u,V w m (.slr r ver 0 n) u→V w m' (.p (.sl sz n g)) u):=by
 have hrl:=nth_lt hr
 have hb:=hS.blk r
 have e:hp K r=.arr ty sz ver n f:=by simp [hp,hr]
 rw [e] at hb
 rcases hb with ⟨hL,h0⟩|⟨cap,c,hL,hn,hm,hc,hs,hv⟩
 ·
  subst h0
  have hT:=Tr.kill (w:=w) hL
  refine⟨m.kill r,hT,?_,fun u hu=>?_⟩
  ·rw [← upd_setN _ hrl]
   have hlive:∀ k,((m.kill r).L k).isLive→(m.L k).isLive:=fun k hk=>by
    simp only [Mp.kill] at hk
    by_cases e:k=r
    ·simp [e,Inf.isLive] at hk
    ·simpa [e] using hk
   refine⟨fun r1 r2 h1 h2 e=>hS.inj r1 r2 (hlive _ h1) (hlive _ h2) e,fun r1 h1=>hS.notI r1 (hlive _ h1),fun r1 h1=>hS.lt r1 (hlive _ h1),hS.Ilt,hS.gl,fun k=>?_⟩
   by_cases hk:k=r
   ·subst hk;simp [upd,Mp.kill,BlkOk]
   ·have hk2:=(hS.blk k).mono (w':=w) (m':=m.kill r) rfl (fun a u hv=>hv.mono hT)
    simp only [upd,Mp.kill,hk,if_false]
    exact hk2
  ·cases hu with
   | slr _ _ _ _ N sz' cap h _=>rw [hL] at h;simp at h
   | slrNil _ _ a h=>exact .p _ _ (.sl0 sz g a 0)
   | slrEnd _ _ _ _ _ a h=>exact .p _ _ (.sl0 sz g a 0)
   | slrOld _ _ _ _ ad c h=>exact .p _ _ (.sl0 sz g ad c)
 ·have hl:(m.L r).isLive:=by rw [hL];trivial
  have hcell:∀ i,i<n→∀ j,j<(g i).length→∃ u,c[i*sz+j]?=some u∧VP w m.I ((g i).getD j .nilp) u:=fun i hi j hj=>by
   obtain⟨h1,h2⟩:=hv i hi
   have e2:=hg i hi
   have hlen:(f i).length=(g i).length:=by rw [e2,pvs_len]
   obtain⟨u,hu,hvu⟩:=h2 j (by omega)
   refine⟨u,hu,?_⟩
   have e3:(f i)[j]'(by omega)=.p ((g i)[j]):=by
    have:(f i)[j]?=some (.p ((g i)[j])):=by rw [e2,List.getElem?_eq_getElem (by rw [pvs_len];exact hj),pvs_get]
    rw [List.getElem?_eq_getElem (by omega)] at this
    exact Option.some.inj this
   rw [e3] at hvu
   cases hvu with
   | p _ _ h=>rw [List.getD_eq_getElem?_getD,List.getElem?_eq_getElem hj];exact h
  refine⟨m.freeze r,Tr.freeze r hl,?_,fun u hu=>?_⟩
  ·rw [← upd_setN _ hrl];exact hS.freeze r hl
  ·cases hu with
   | slr _ _ _ _ N sz' cap' h hN =>
    rw [hL] at h
    simp only [Inf.live.injEq] at h
    obtain⟨-,-,rfl,rfl⟩:=h
    refine .p _ _ ?_
    rw [Nat.zero_mul,Nat.sub_zero]
    have hcs:∀ i,i<n→∀ j,j<(g i).length→w.cell? ⟨m.ρ r,0+(i*sz+j),none⟩=some (c.getD (i*sz+j) undef):=fun i hi j hj=>by
     obtain⟨u,hu,_⟩:=hcell i hi j hj
     simp [World.cell?,hc,hu,Array.getD_eq_getD_getElem?]
    refine .sl sz n g (m.ρ r) 0 cap (fun i j=>c.getD (i*sz+j) undef) (.inr rfl) ⟨hn,Nat.le_trans hn hm⟩ hcs fun i hi j hj=>?_
    obtain⟨u,hu,hvu⟩:=hcell i hi j hj
    have e4:c.getD (i*sz+j) undef=u:=by rw [Array.getD_eq_getD_getElem?,hu];rfl
    rw [List.getD_eq_getElem?_getD,List.getElem?_eq_getElem hj] at hvu
    show VP w (m.freeze r).I _ _
    rw [e4]
    exact hvu.mono (fun _ hb=>.inl hb) (fun _ _=>rfl)
   | slrNil _ _ _ h=>rw [hL] at h;simp at h
   | slrEnd _ _ _ _ _ a h=>exact .p _ _ (.sl0 sz g a 0)
   | slrOld _ _ _ _ ad c' h=>rw [hL] at h;simp [Inf.old] at h
theorem Wk1.freeze {N:Nat} {K:List ABlk} {r ty sz ver n:Nat} {f:Nat→List AV} (hr:nth K r=some (.arr ty sz ver n f)) (g:Nat→List PV) (hg:∀ i,i<n→f i=pvs (g i)) :
  Wk1 N (.slr r ver 0 n) K (.p (.sl sz n g)) (setN K r .dead):=fun w m u we me hT _ hS hV=>by
 obtain⟨m',h1,h2,h3⟩:=freeze_sl hS hr g hg
 exact⟨m',hT.trans h1,h2,h3 u hV⟩
def allLt (p:Nat→Prop):Nat→Prop
 | 0=>True
 | n+1=>allLt p n∧p n
theorem allLt_ok {p:Nat→Prop} {n:Nat} (h:allLt p n):∀ i,i<n→p i:=by
 induction n with
 | zero=>intro i hi;omega
 | succ n ih =>
  intro i hi
  by_cases e:i=n
  ·subst e;exact h.2
  ·exact ih h.1 i (by omega)
theorem LoopW.by {kb:Nat} {F:AS→(Ex→AS→Prop)→Prop} {Q:Ex→AS→Prop} {ι:Type} (st:ι→AS) (Pre:ι→Prop) (μ:ι→Nat)
  (h:∀ (X:AS→Prop),(∀ s s',Le kb s s'→X s'→X s)→∀ i,Pre i→(∀ j,μ j<μ i→Pre j→X (st j))→F (st i) (fun e s'=>match e with | .norm=>X s'|e=>Q e s'))
  (i:ι) (hi:Pre i):LoopW kb F (st i) Q:=⟨fun X hF hL=>by
 have:∀ n i,μ i<n→Pre i→X (st i):=by
  intro n
  induction n with
  | zero=>intro i h;omega
  | succ n ih=>exact fun i hn hp=>hF _ (h X hL i hp fun j hj hpj=>ih j (by omega) hpj)
 exact this _ i (Nat.lt_succ_self _) hi⟩
theorem LoopW.le {kb:Nat} {F:AS→(Ex→AS→Prop)→Prop} {Q:Ex→AS→Prop} {s s':AS} (h:Le kb s s') (hl:LoopW kb F s' Q):LoopW kb F s Q :=
 ⟨fun X hF hL=>hL _ _ h (hl.out X hF hL)⟩
theorem Le.cutEnv {kb:Nat} (n:Nat) {t t':List (Nat×AV)} {K K':List ABlk} (hn:Nat.ble kb n=true) (ht:clE n t'=true) (hK:clK n (takeN K n)) (h:subE t t') (hK':lesK (takeN K n) K'):Le kb ⟨t,K⟩ ⟨t',K'⟩:=by
 refine Le.trans (Le.env h (lesK.refl K)) (Le.trans (Le.cut hn ht hK) ?_)
 exact fun _ _ _ _ m _ hT hS hE=>⟨m,hT,hS.les hK',hE,.refl m⟩
theorem loop_by {kb:Nat} {F:AS→(Ex→AS→Prop)→Prop} {Q:Ex→AS→Prop} {t:List (Nat×AV)} {K:List ABlk} {ι:Type} (st:ι→AS) (Pre:ι→Prop) (μ:ι→Nat) (i:ι)
  (hs:subE t (st i).t) (hK:lesK K (st i).K) (hi:Pre i)
  (h:∀ (X:AS→Prop),(∀ s s',Le kb s s'→X s'→X s)→∀ i,Pre i→(∀ j,μ j<μ i→Pre j→X (st j))→F (st i) (fun e s'=>match e with | .norm=>X s'|e=>Q e s')) :
  LoopW kb F ⟨t,K⟩ Q:=LoopW.le (Le.env hs hK) (LoopW.by st Pre μ h i hi)
end
end Go.AE
namespace Go.AE
section
variable {P:Program} {T:Tab}
def nsw (r:Nat) (a b:AV):Prop:=a.le b∨(a=.p .nils∧b=.slr r 0 0 0)
def nswL (r:Nat):List AV→List AV→Prop
 | [],[]=>True
 | a::l,b::l'=>nsw r a b∧nswL r l l'
 | _,_=>False
def nswB (r:Nat) (b b':ABlk):Prop:=b.le b'∨∃ ty cs cs',b=.box ty cs∧b'=.box ty cs'∧nswL r cs cs'
def nswK (r:Nat):List ABlk→List ABlk→Prop
 | [],[]=>True
 | a::l,b::l'=>nswB r a b∧nswK r l l'
 | _,_=>False
def nswE (r:Nat) (t:List (Nat×AV)):List (Nat×AV)→Prop
 | []=>True
 | (d,v)::l=>nsw r (look t d) v∧nswE r t l
theorem nsw.v {r:Nat} {a b:AV} (h:nsw r a b) {w:World} {m:Mp} {u:Value} (hr:m.L r=.nil 0) (hv:V w m a u):V w m b u:=by
 rcases h with h|⟨rfl,rfl⟩
 ·exact h _ _ _ hv
 ·cases hv with
  | p _ _ h=>cases h;exact .slrNil r 0 none hr
theorem nswL.get {r:Nat} {l l':List AV} (h:nswL r l l'):l.length=l'.length∧∀ j (hj:j<l.length) (hj':j<l'.length),nsw r l[j] l'[j]:=by
 induction l generalizing l' with
 | nil=>cases l' with
  | nil=>exact⟨rfl,fun j hj=>by simp at hj⟩
  | cons b l'=>exact h.elim
 | cons a l ih=>cases l' with
  | nil=>exact h.elim
  | cons b l' =>
   obtain⟨h1,h2⟩:=ih h.2
   refine⟨by simp [h1],fun j hj hj'=>?_⟩
   cases j with
   | zero=>exact h.1
   | succ j=>exact h2 j (by simpa using hj) (by simpa using hj')
theorem nswB.ok {r:Nat} {b b':ABlk} (h:nswB r b b') {w:World} {m:Mp} {l:Inf} {g:Nat} (hr:m.L r=.nil 0) (hb:BlkOk w m l g b):BlkOk w m l g b':=by
 rcases h with h|⟨ty,cs,cs',rfl,rfl,h⟩
 ·exact h _ _ _ _ hb
 ·obtain⟨h1,h2⟩:=h.get
  obtain⟨hl,c,hc,hs,hv⟩:=hb
  refine⟨by rw [← h1];exact hl,c,hc,by rw [hs,h1],fun j hj=>?_⟩
  obtain⟨u,hu,hv⟩:=hv j (by omega)
  exact⟨u,hu,(h2 j (by omega) hj).v hr hv⟩
theorem nswK.length {r:Nat} {K K':List ABlk} (h:nswK r K K'):K.length=K'.length:=by
 induction K generalizing K' with
 | nil=>cases K' with
  | nil=>rfl
  | cons b l'=>exact h.elim
 | cons a l ih=>cases K' with
  | nil=>exact h.elim
  | cons b l'=>simp [ih h.2]
theorem nswK.hp {r:Nat} {K K':List ABlk} (h:nswK r K K') (j:Nat):nswB r (hp K j) (hp K' j):=by
 induction K generalizing K' j with
 | nil=>cases K' with
  | nil=>exact .inl (ABlk.le_refl _)
  | cons b l'=>exact h.elim
 | cons a l ih=>cases K' with
  | nil=>exact h.elim
  | cons b l' =>
   cases j with
   | zero=>exact h.1
   | succ j=>exact ih h.2 j
theorem nswK.refl (r:Nat) (K:List ABlk):nswK r K K:=by
 induction K with
 | nil=>trivial
 | cons b K ih=>exact⟨.inl (ABlk.le_refl b),ih⟩
theorem nswE.look {r:Nat} {t t':List (Nat×AV)} (h:nswE r t t') (d:Nat):nsw r (look t d) (look t' d):=by
 induction t' with
 | nil=>exact .inl (AV.le_junk _)
 | cons x l ih =>
  obtain⟨j,v⟩:=x
  rw [look_cons]
  by_cases e:j=d
  ·subst e;rw [if_pos rfl];exact h.1
  ·rw [if_neg e];exact ih h.2
theorem Tr.nil {w:World} {m:Mp} {r:Nat} (hr:m.L r=.absent):Tr w m w (m.set r 0 (.nil 0)) where
 os:=rfl
 tape:=rfl
 output:=rfl
 size:=Nat.le_refl _
 out:=fun _ _ _=>rfl
 imm:=fun _ h=>h
 same:=fun _ _=>rfl
 newI:=fun _ h=>.inl h
 step:=fun k=>by
  simp only [Mp.set]
  by_cases hk:k=r
  ·subst hk;rw [hr];trivial
  ·simp only [hk,if_false];exact Inf.step_refl _ _ trivial
 newρ:=fun k hk=>by
  simp only [Mp.set] at hk ⊢
  by_cases hk':k=r
  ·subst hk';simp [Inf.isLive] at hk
  ·simp only [hk',if_false] at hk ⊢;exact .inl ⟨hk,trivial⟩
theorem nil_core {w:World} {m:Mp} {K K':List ABlk} (ty sz:Nat) (f:Nat→List AV) (hS:St w m (hp K)) (hK:nswK K.length K K') :
  ∃ m',Tr w m w m'∧St w m' (hp (K'++[.arr ty sz 0 0 f]))∧m'.L K.length=.nil 0:=by
 have ha:m.L K.length=.absent:=hS.ge _ (Nat.le_refl _)
 have hT2:=Tr.nil (w:=w) ha
 have hr:(m.set K.length 0 (.nil 0)).L K.length=.nil 0:=by simp [Mp.set]
 have hlive:∀ k,((m.set K.length 0 (.nil 0)).L k).isLive→k≠K.length∧(m.L k).isLive:=fun k hk=>by
  simp only [Mp.set] at hk
  by_cases e:k=K.length
  ·simp [e,Inf.isLive] at hk
  ·exact⟨e,by simpa [e] using hk⟩
 have hρ:∀ k,k≠K.length→(m.set K.length 0 (.nil 0)).ρ k=m.ρ k:=fun k hk=>by simp [Mp.set,hk]
 refine⟨_,hT2,⟨fun r1 r2 h1 h2 e=>?_,fun r1 h1=>?_,fun r1 h1=>?_,hS.Ilt,hS.gl,fun j=>?_⟩,hr⟩
 ·rw [hρ _ (hlive _ h1).1,hρ _ (hlive _ h2).1] at e
  exact hS.inj r1 r2 (hlive _ h1).2 (hlive _ h2).2 e
 ·rw [hρ _ (hlive _ h1).1];exact hS.notI r1 (hlive _ h1).2
 ·rw [hρ _ (hlive _ h1).1];exact hS.lt r1 (hlive _ h1).2
 ·rw [hp_append,← hK.length]
  by_cases e:j<K.length
  ·rw [if_pos e]
   have hb:=(hS.blk j).mono (w':=w) (m':=m.set K.length 0 (.nil 0)) rfl (fun a u hv=>hv.mono hT2)
   have hL:(m.set K.length 0 (.nil 0)).L j=m.L j:=by simp [Mp.set,show j≠K.length by omega]
   rw [hL,hρ _ (show j≠K.length by omega)]
   exact (hK.hp j).ok hr hb
  ·rw [if_neg e]
   by_cases e2:j=K.length
   ·subst e2
    rw [hr,Nat.sub_self]
    exact .inl ⟨rfl,rfl⟩
   ·have:hp [ABlk.arr ty sz 0 0 f] (j - K.length)=.absent:=hp_ge _ _ (by simp;omega)
    rw [this]
    show (m.set K.length 0 (.nil 0)).L j=.absent
    have:=hS.ge j (by omega)
    simpa [Mp.set,e2] using this
theorem Le.nilRow {kb:Nat} {t t':List (Nat×AV)} {K K':List ABlk} (ty sz:Nat) (f:Nat→List AV) (_:Nat.ble kb K.length=true) (ht:nswE K.length t t') (hK:nswK K.length K K') :
  Le kb ⟨t,K⟩ ⟨t',K'++[.arr ty sz 0 0 f]⟩:=fun we me hk w m tmps hT hS hE=>by
 obtain⟨m',h1,h2,h3⟩:=nil_core ty sz f hS hK
 exact⟨m',hT.trans h1,h2,fun d=>(ht.look d).v h3 ((hE d).mono h1),.tr h1 h2⟩
theorem ACalls.nil {f:FuncId} {args:List AV} {K:List ABlk} {k:AO→List ABlk→Prop}
  (h:ACalls P f args K (fun ao K1=>∃ ty sz g K2,nswK K1.length K1 K2∧k ao (K2++[.arr ty sz 0 0 g]))):ACalls P f args K k:=by
 refine h.post fun ao K1 ⟨ty,sz,g,K2,h1,h2⟩=>⟨ao.val,K2++[.arr ty sz 0 0 g],fun w m u we me hT hk hS hV=>?_,by cases ao<;>exact h2⟩
 obtain⟨m',h3,h4,_⟩:=nil_core ty sz g hS h1
 exact⟨m',hT.trans h3,h4,hV.mono h3⟩
theorem loop_nil {kb:Nat} {F:AS→(Ex→AS→Prop)→Prop} {Q:Ex→AS→Prop} {t:List (Nat×AV)} {K:List ABlk} {ι:Type} (ty sz:Nat) (f:Nat→List AV) (st:ι→AS) (Pre:ι→Prop) (μ:ι→Nat) (i:ι) (K1:List ABlk)
  (hkb:Nat.ble kb K.length=true) (hs:nswE K.length t (st i).t) (hK:nswK K.length K K1) (hK1:(st i).K=K1++[.arr ty sz 0 0 f]) (hi:Pre i)
  (h:∀ (X:AS→Prop),(∀ s s',Le kb s s'→X s'→X s)→∀ i,Pre i→(∀ j,μ j<μ i→Pre j→X (st j))→F (st i) (fun e s'=>match e with | .norm=>X s'|e=>Q e s')) :
  LoopW kb F ⟨t,K⟩ Q:=by
 refine LoopW.le (Le.nilRow ty sz f hkb hs hK) ?_
 have:=LoopW.by (kb:=kb) (F:=F) (Q:=Q) st Pre μ h i hi
 have e:st i=⟨(st i).t,K1++[.arr ty sz 0 0 f]⟩:=by
  cases hst:st i
  rw [hst] at hK1
  simp only at hK1
  rw [hK1]
 rwa [e] at this
theorem loop_cut {kb:Nat} {F:AS→(Ex→AS→Prop)→Prop} {Q:Ex→AS→Prop} {t:List (Nat×AV)} {K:List ABlk} {ι:Type} (n:Nat) (st:ι→AS) (Pre:ι→Prop) (μ:ι→Nat) (i:ι)
  (hn:Nat.ble kb n=true) (ht:clE n (st i).t=true) (hs:subE t (st i).t) (hK:clK n (takeN K n)) (hK':lesK (takeN K n) (st i).K) (hi:Pre i)
  (h:∀ (X:AS→Prop),(∀ s s',Le kb s s'→X s'→X s)→∀ i,Pre i→(∀ j,μ j<μ i→Pre j→X (st j))→F (st i) (fun e s'=>match e with | .norm=>X s'|e=>Q e s')) :
  LoopW kb F ⟨t,K⟩ Q:=LoopW.le (Le.cutEnv (t':=(st i).t) (K':=(st i).K) n hn ht hK hs hK') (LoopW.by st Pre μ h i hi)
theorem Wk1.tup_freeze1 {N:Nat} {K:List ABlk} {r ty sz ver n:Nat} {f:Nat→List AV} {l:List AV} (hr:nth K r=some (.arr ty sz ver n f)) (g:Nat→List PV) (hg:∀ i,i<n→f i=pvs (g i)) :
  Wk1 N (.tup (.slr r ver 0 n::l)) K (.tup (.p (.sl sz n g)::l)) (setN K r .dead):=fun w m u we me hT _ hS hV=>by
 obtain⟨m',h1,h2,h3⟩:=freeze_sl hS hr g hg
 refine⟨m',hT.trans h1,h2,?_⟩
 cases hV with
 | tup _ A hA hv =>
  refine .tup _ A hA fun j hj hj'=>?_
  cases j with
  | zero=>exact h3 _ (hv 0 (by simp) hj')
  | succ j=>exact (hv (j+1) (by simpa using hj) hj').mono h1
theorem AV.tup_le {l l':List AV} (h:lesL l l'):(AV.tup l).le (.tup l'):=fun w m u hV=>by
 obtain⟨h1,h2⟩:=h.get
 cases hV with
 | tup _ A hA hv=>exact .tup _ A (by rw [← h1];exact hA) fun j hj hj'=>h2 j (by omega) hj _ _ _ (hv j (by omega) hj')
end
end Go.AE
