/-
  On the way to flowTells_card: part 4 of 11.
-/
import Derived.KernelRfl
import Derived.Test.YtojjkleplnijaaaGreatDoorProg
import Derived.Shelf.Small.Strs
import Derived.Shelf.Strconv.Atoi
import Derived.Shelf.Strconv.Itoa0
import Derived.Shelf.Strconv.Itoa1
import Derived.Shelf.LaysM
import Derived.Shelf.Strconv.Itoa2
import Derived.Shelf.Strconv.Itoa3
import Derived.Shelf.Strconv.AtoiErrFast
import Derived.Shelf.Strconv.ParseIntEmpty
import Derived.Shelf.Strconv.AtoiFail
import Derived.Shelf.Strconv.Clone
import Derived.Shelf.Strconv.SyntaxError
import Derived.Shelf.LaysC
import Derived.Shelf.Strconv.ToError
import Derived.Shelf.Strconv.Lower
import Derived.Shelf.Strconv.ParseUint10
import Derived.Shelf.Strconv.ParseUint10Empty
import Derived.Shelf.Strconv.ParseUint10Any
import Derived.Shelf.Strconv.ParseInt10
import Derived.Shelf.Strconv.AtoiLong
import Derived.Shelf.Strconv.AtoiInnerAll
import Derived.Shelf.Strconv.RangeError
import Derived.Shelf.Strconv.ToErrorRange
import Derived.Shelf.Strconv.AtoiAll
import Derived.Shelf.Strings.Search1
import Derived.Shelf.Strings.Search2
import Derived.Shelf.Strings.Search3
import Derived.Shelf.Strings.Shaped
import Derived.Test.YtojjkleplnijaaaGreatDoorChecked
import Derived.Test.YtojjkleplnijaaaGreatDoorPk1
import Derived.Test.YtojjkleplnijaaaGreatDoorPk3
set_option linter.unusedVariables false
set_option linter.unusedSimpArgs false
namespace Go.AE
section
variable {P:Program} {T:Tab} {call:ACall} {we:World} {me:Mp} {N kb:Nat} {D0:List Deferred} {bm:Bool} {ro:Option Nat} {nn:Nat}
theorem FW.room (n:Nat):(FW ro).room n:=fun _ h=>by simp [FW,Fence.wide] at h
def AtHead (P:Program) (ro:Option Nat) (c:Code) (Q:Exit→Act→World→Prop) (a:Act) (w:World):Prop :=
 ∀ (b:Frame) (k:List Item) (cs:List Frame),b.roundOf=ro→∃ e a' w',Q e a' w'∧ArrivesIn (Machine.fenced P (FW ro)) P (lone (b.atR a (.code c::.inLoop c::k)) cs w) b k cs e a' w'
theorem AtHead.step {c:Code} {Q:Exit→Act→World→Prop} {a:Act} {w:World} (h:c.wpIn (FW ro) nn P (fun e a' w'=>match e with | .normal=>AtHead P ro c Q a' w'|e=>Q e a' w') a w):AtHead P ro c Q a w:=by
 intro b k cs hro
 obtain⟨e,a₁,w₁,hq,harr⟩:=h b (.inLoop c::k) cs hro trivial (FW.room _)
 cases e with
 | normal =>
  obtain⟨e₂,a₂,w₂,hq₂,harr₂⟩:=hq b k cs hro
  exact⟨e₂,a₂,w₂,hq₂,.of_steps (StepsIn.trans harr (.one (fenced_calm (n:=0) trivial (FW.room _) rfl) stepR_inLoop)) harr₂⟩
 | exit id=>exact⟨_,a₁,w₁,hq,.pass (x:=.inLoop c) rfl (fun _ _=>.inl (by simp)) harr⟩
 | goto l=>exact⟨_,a₁,w₁,hq,.pass (x:=.inLoop c) rfl (fun _ _=>.inl (by simp)) harr⟩
 | ret=>exact⟨_,a₁,w₁,hq,.pass (x:=.inLoop c) rfl (fun _ _=>.inl (by simp)) harr⟩
 | panic ch=>exact⟨_,a₁,w₁,hq,.pass (x:=.inLoop c) rfl (fun _ _=>.inl (by simp)) harr⟩
 | outgrown=>exact⟨_,a₁,w₁,hq,.pass (x:=.inLoop c) rfl (fun _ _=>.inl (by simp)) harr⟩
theorem AtHead.loop {c:Code} {Q:Exit→Act→World→Prop} {a:Act} {w:World} (h:AtHead P ro c Q a w):(Code.loop c).wpIn (FW ro) nn P Q a w:=by
 intro b k cs hro hb hr
 obtain⟨e,a',w',hq,harr⟩:=h b k cs hro
 exact⟨e,a',w',hq,.of_steps (.one (fenced_calm hb hr rfl) stepR_loop) harr⟩
theorem mem_cons (l:List Nat) (a n:Nat):mem (a::l) n=(Nat.beq a n || mem l n):=by
 simp only [mem]
 cases Nat.beq a n<;>rfl
theorem fE_ok {t:List (Nat×AV)} {seen:List Nat} {k:List (Nat×AV)→Prop} (h:fE seen t k):∃ t',k t'∧∀ d,mem seen d=false→look t' d=look t d:=by
 induction t generalizing seen k with
 | nil=>exact⟨[],h,fun _ _=>rfl⟩
 | cons x r ih =>
  obtain⟨d,v⟩:=x
  rw [fE_cons] at h
  split at h
  ·rename_i hm
   obtain⟨t',h1,h2⟩:=ih h
   refine⟨t',h1,fun j hj=>?_⟩
   rw [look_cons,h2 j hj]
   by_cases e:d=j
   ·subst e;rw [hm] at hj;simp at hj
   ·rw [if_neg e]
  ·rw [fV_eq] at h
   obtain⟨t',h1,h2⟩:=ih h
   refine⟨_,h1,fun j hj=>?_⟩
   rw [look_cons,look_cons]
   by_cases e:d=j
   ·rw [if_pos e,if_pos e]
   ·rw [if_neg e,if_neg e]
    refine h2 j ?_
    rw [mem_cons,hj,Bool.or_false]
    exact Bool.eq_false_iff.2 fun hb=>e (Nat.eq_of_beq_eq_true hb)
theorem Tr.allocN {w:World} {m:Mp} (hI:∀ b,m.I b→b<w.heap.size) (o:Obj):Tr w m (w.alloc o) m where
 os:=rfl
 tape:=rfl
 output:=rfl
 size:=by simp
 out:=fun b hb _=>heap_alloc w o b hb
 imm:=fun _ h=>h
 same:=fun b hb=>heap_alloc w o b (hI b hb)
 newI:=fun _ h=>.inl h
 step:=fun _=>Inf.step_refl _ _ rfl
 newρ:=fun _ hr=>.inl ⟨hr,rfl⟩
theorem St.allocN {w:World} {m:Mp} {H:Nat→ABlk} (h:St w m H) (o:Obj):St (w.alloc o) m H:=by
 have hT:=Tr.allocN h.Ilt o
 refine⟨h.inj,h.notI,fun r hr=>by have:=h.lt r hr;simp;omega,fun b hb=>by have:=h.Ilt b hb;simp;omega,h.gl.mono hT.imm hT.same,fun r=>?_⟩
 by_cases hl:(m.L r).isLive
 ·exact (h.blk r).mono (heap_alloc w o _ (h.lt r hl)) (fun _ _ hv=>hv.mono hT)
 ·exact (h.blk r).nolive hl
theorem Mk.lt {w:World} {m:Mp} (hD0:∀ d∈D0,∀ D,d.target≠.collected D) {ds:List Deferred} (h:Mk bm we D0 w m ds):∀ d∈ds,∀ D,d.target=.collected D→D<w.heap.size:=by
 induction h with
 | base=>exact fun d hd D e=>absurd e (hD0 d hd D)
 | mark hb D ds h1 h2 h3 h4 h5 _ ih =>
  intro d hd D' e
  rcases List.mem_cons.1 hd with rfl|hd
  ·injection e with e
   subst e
   exact (Array.getElem?_eq_some_iff.1 h2).1
  ·exact ih d hd D' e
theorem lp_stands {w w':World} {m m':Mp} (t:Tr w m w' m') {r:Nat} (h:m.L r=.live 0 1 1 1) (h':m'.L r=.live 0 1 1 1):m'.ρ r=m.ρ r:=by
 have hs:=t.step r
 rw [h,h'] at hs
 simp only [Inf.step] at hs
 rcases hs with hs|⟨_,he⟩|⟨v',n',sz',cap',hs,hlt⟩
 ·cases hs
 ·exact he
 ·simp only [Inf.live.injEq] at hs;omega
theorem endRF_ok {s:AS} {Q:Ex→AS→Prop} {w w2:World} {m m2:Mp} {a:Act} {l D:Nat} {e:Ending} {w':World} (hT12:Tr w m w2 m2) (hL2:m2.L (len s.K)=.live 0 1 1 1) (hρ2:m2.ρ (len s.K)=l)
  (hTr:Tr we me w m) (hE:EnvOk w m s.t a.tmps) (hN:a.tmps.size=N) (hMk2:Mk bm we D0 w2 m2 ({ target:=.collected D,args:=#[] }::a.defers))
  (hR:Post w2 m2 (endRF s Q (len s.K)) e w'):rangePost (FW ro) nn P l (Rel bm N we me D0 Q) { a with defers:=[{ target:=.collected D,args:=#[] }]++a.defers } e w':=by
 cases e with
 | returned v =>
  obtain⟨m',av,K',h1,h2,h3,h4⟩:=hR
  simp only [endRF] at h4
  split at h4
  case h_2=>exact h4.elim
  rename_i st env' N' ps' as' bd' hnth
  rw [fL_eq] at h4
  have hb:=h2.blk (len s.K)
  rw [hp_nth hnth] at hb
  obtain⟨hl,p,fn',tmps',D,hh,hp',hsz',hV'⟩:=hb
  have hρ':m'.ρ (len s.K)=l:=(lp_stands h1 hL2 hl).trans hρ2
  have hlive:(m'.L (len s.K)).isLive:=by rw [hl];trivial
  obtain⟨o,ho⟩:∃ o:Obj,o=.loop { state:=.exhausted,pending:=p,fn:=fn',tmps:=tmps',params:=ps',assign:=as',body:=bd',defers:=D }:=⟨_,rfl⟩
  have hT3:=Tr.putObj h2 (len s.K) hlive o
  have hS3:=h2.putObj (len s.K) hlive o (.lp .over env' N' ps' as' bd') ⟨hl,p,fn',tmps',D,by rw [World.putObj_heap_same (h2.lt _ hlive),ho];rfl,trivial,hsz',fun d=>(hV' d).mono hT3⟩
  rw [← hp_set K' (len s.K) _ _ hnth,hρ'] at hS3
  rw [hρ'] at hT3
  have hrun:st.state≠.busy→(Instr.endLoop l).run P w'=.ok p (w'.putObj l o):=fun hst=>by
   rw [ho];rw [hρ'] at hh;exact run_endLoop hh hst
  have hTT:Tr we me (w'.putObj l o) m':=(hTr.trans hT12).trans (h1.trans hT3)
  have hEE:EnvOk (w'.putObj l o) m' s.t a.tmps:=(hE.mono hT12).mono (h1.trans hT3)
  have hMM:=hMk2.mono (h1.trans hT3)
  cases st with
  | ready =>
   have hp'':p=none:=hp'
   subst hp''
   exact⟨none,_,hrun (by simp [LSt.state]),hN,m',⟨s.t,_⟩,hMM,hTT,hS3,hEE,h4⟩
  | ret =>
   have hp'':p=some .ret:=hp'
   subst hp''
   exact⟨some .ret,_,hrun (by simp [LSt.state]),wpIn_ret ⟨hN,m',⟨s.t,_⟩,hMM,hTT,hS3,hEE,h4⟩⟩
  | exit n =>
   have hp'':p=some (.exit n):=hp'
   subst hp''
   exact⟨some (.exit n),_,hrun (by simp [LSt.state]),wpIn_exit ⟨hN,m',⟨s.t,_⟩,hMM,hTT,hS3,hEE,h4⟩⟩
  | busy=>exact h4.elim
  | over=>exact h4.elim
 | panicked ch =>
  obtain⟨m',av,u,K',rfl,h1,h2,h3,h4⟩:=hR
  exact⟨hN,m',⟨s.t,K'⟩,av,u,hMk2.mono h1,rfl,(hTr.trans hT12).trans h1,h2,(hE.mono hT12).mono h1,h3,h4⟩
 | outgrown=>exact hR.elim
theorem rangeF_ok (hT:TabOk P T) (hcall:CallOk P call) (hmix:P.follows .mixedOrders=true) (hD0:∀ d∈D0,∀ D,d.target≠.collected D) (hro:ro=none) (hbm:bm=true)
  (g:Operand) (ps:Array Tmp) (assign body:Code) (s:AS) (Q:Ex→AS→Prop) {x y:AW} (h:wRangeF call N g ps assign body x y s Q)
  (w:World) (m:Mp) (a:Act) (hTr:Tr we me w m) (hS:St w m (hp s.K)) (hE:EnvOk w m s.t a.tmps) (hN:a.tmps.size=N) (hd:Mk bm we D0 w m a.defers) :
  (Code.rangeFunc g ps assign body).wpIn (FW ro) nn P (Rel bm N we me D0 Q) a w:=by
 subst hro
 unfold wRangeF at h
 split at h
 case h_1=>exact h.elim
 obtain⟨env,henv,hE'⟩:=fE_ok h
 rw [fN_eq,fL_eq] at henv
 refine wpIn_rangeFunc ?_
 intro fn _
 obtain⟨rec,hrec⟩:∃ rec:Loop,rec={ state:=.ready,pending:=none,fn,tmps:=a.tmps,params:=ps,assign,body,defers:=w.heap.size }:=⟨_,rfl⟩
 have hT1:=Tr.allocN hS.Ilt (.deferred (some []))
 have hS1:=hS.allocN (.deferred (some []))
 have hr0:hp s.K (len s.K)=.absent:=by
  simp only [hp,nth_eq]
  rw [List.getElem?_eq_none (by rw [len_eq];exact Nat.le_refl _)]
 have hL0:m.L (len s.K)=.absent:=hS.absent hr0
 have hT2:=Tr.alloc (w.alloc (.deferred (some []))) m (.loop rec) (len s.K) (.live 0 1 1 1) hL0 hS1.Ilt
 have hT12:=hT1.trans hT2
 have hlp:BlkOk ((w.alloc (.deferred (some []))).alloc (.loop rec)) (m.set (len s.K) (w.alloc (.deferred (some []))).heap.size (.live 0 1 1 1)) (.live 0 1 1 1) (w.alloc (.deferred (some []))).heap.size
   (.lp .ready env N ps assign body) :=
  ⟨rfl,none,fn,a.tmps,w.heap.size,by rw [World.alloc_heap_new,hrec];rfl,rfl,hN,fun d=>by rw [hE' d rfl];exact (hE d).mono hT12⟩
 have hS2:=hS1.alloc (.loop rec) (len s.K) (.live 0 1 1 1) hr0 _ hlp
 rw [← hp_snoc] at hS2
 have hsz:(w.alloc (.deferred (some []))).heap.size=w.heap.size+1:=by simp
 rw [hsz] at hS2 hT2 hT12
 obtain⟨w2,hw2⟩:∃ w2,(w.alloc (.deferred (some []))).alloc (.loop rec)=w2:=⟨_,rfl⟩
 obtain⟨m2,hm2⟩:∃ m2,m.set (len s.K) (w.heap.size+1) (.live 0 1 1 1)=m2:=⟨_,rfl⟩
 rw [hw2,hm2] at hS2 hT12
 have hL2:m2.L (len s.K)=.live 0 1 1 1:=by rw [← hm2];simp [Mp.set]
 have hρ2:m2.ρ (len s.K)=w.heap.size+1:=by rw [← hm2];simp [Mp.set]
 have hD2:w2.heap[w.heap.size]?=some (.deferred (some [])):=by
  rw [← hw2]
  exact (heap_alloc _ _ _ (by simp)).trans (World.alloc_heap_new w _)
 have hMk2:Mk bm we D0 w2 m2 ({ target:=.collected w.heap.size,args:=#[] }::a.defers):=by
  refine .mark hbm _ _ hTr.size hD2 (fun hI=>?_) (fun r hr e=>?_) (fun d hd' e=>?_) (hd.mono hT12)
  ·rw [← hm2] at hI;have:=hS.Ilt _ hI;omega
  ·rw [← hm2] at hr e
   simp only [Mp.set] at hr e
   by_cases er:r=len s.K
   ·simp [er] at e
   ·simp only [er,if_false] at hr e;have:=hS.lt r hr;omega
  ·have:=hd.lt hD0 d hd' _ e;omega
 have hyl:V w2 m2 (.yld (len s.K)) (.func (.yield (w.heap.size+1)) #[] #[]):=by rw [← hρ2];exact .yld _ _ _ hL2
 have key:∀ (f:FuncId) (A B:Array Value) (args:List AV),a.eval g=.func (.func f) A B→VL w2 m2 args (A++#[.func (.yield (w.heap.size+1)) #[] #[]]++B) →
   callF call f args (snoc s.K (.lp .ready env N ps assign body)) (endRF s Q (len s.K)) →
   ∃ (l:Nat) (mark:List Deferred) (w₁:World) (d:Deferred) (w₁':World) (f:FuncId) (args:Array Value) (w₂:World),
   (Instr.enterLoop fn a.tmps ps assign body (FW none).round).run P w=.ok (l,mark) w₁ ∧
   (resolve a.eval (rangeCall g l) 0).run P w₁=.ok d w₁' ∧
   (∀ f',Target.leads P w₁' d.target d.args=some f'→(FW none).fn f') ∧
   (invoke d.target d.args).run P w₁'=.ok (.enter f args) w₂ ∧
   ((FW none).depth.isSome=true→1≤nn) ∧
   CallsIn (FW none) (nn - 1) P f args w₂ (rangePost (FW none) nn P l (Rel bm N we me D0 Q) { a with defers:=mark++a.defers }):=by
  intro f A B args hg hV hc
  have hent:=(callF_ok hcall hc).1
  have hcalls:=(callF_ok hcall hc).2 w2 m2 _ hS2 hV
  have hpost:∀ e w',Post w2 m2 (endRF s Q (len s.K)) e w'→rangePost (FW none) nn P (w.heap.size+1) (Rel bm N we me D0 Q) { a with defers:=[{ target:=.collected w.heap.size,args:=#[] }]++a.defers } e w':=by
   intro e w' hR
   exact endRF_ok hT12 hL2 hρ2 hTr hE hN hMk2 hR
  have hcc:CallsIn (FW none) (nn - 1) P f (A++#[.func (.yield (w.heap.size+1)) #[] #[]]++B) w2 (rangePost (FW none) nn P (w.heap.size+1) (Rel bm N we me D0 Q) { a with defers:=[{ target:=.collected w.heap.size,args:=#[] }]++a.defers }) :=
   FW.calls (hcalls.mono hpost)
  have h1:(Instr.enterLoop fn a.tmps ps assign body (FW none).round).run P w=.ok (w.heap.size+1,[{ target:=.collected w.heap.size,args:=#[] }]) w2:=by
   rw [← hw2,hrec];exact run_enterLoop_outer _ _ _ _ _
  have h2:(resolve a.eval (rangeCall g (w.heap.size+1)) 0).run P w2=.ok { target:=.fn (.func f) B,args:=A++#[.func (.yield (w.heap.size+1)) #[] #[]] } w2:=by
   simp only [resolve,hg]
   simp [go_sem]
  have h3:(invoke (.fn (.func f) B) (A++#[.func (.yield (w.heap.size+1)) #[] #[]])).run P w2=.ok (.enter f (A++#[.func (.yield (w.heap.size+1)) #[] #[]]++B)) w2:=by
   simp [invoke,callFunc_run hent]
  exact⟨_,_,w2,_,w2,f,_,w2,h1,h2,fun _ _=>trivial,h3,FW.depth,hcc⟩
 have hg:=(hE.ev g).mono hT12
 generalize hgv:a.eval g=ug at hg
 generalize ev s.t g=ag at henv hg
 cases hg with
 | fn f first cap A B hA hB h1 h2 =>
  simp only [fVL_eq,catL_eq] at henv
  refine key f A B _ hgv ?_ henv
  have hc:VL w2 m2 [.yld (len s.K)] #[.func (.yield (w.heap.size+1)) #[] #[]]:=⟨rfl,fun j hj hj'=>by
   have:j=0:=by simpa using hj
   subst this;exact hyl⟩
  have:=(VL.append ⟨hA,h1⟩ hc).append ⟨hB,h2⟩
  simpa using this
 | p v u hv =>
  cases hv with
  | fn f =>
   refine key f #[] #[] _ hgv ?_ henv
   exact⟨rfl,fun j hj hj'=>by
    have:j=0:=by simpa using hj
    subst this;exact hyl⟩
  | _=>exact henv.elim
 | _=>exact henv.elim
theorem awp_ok (hT:TabOk P T) (hcall:CallOk P call) (hmix:P.follows .mixedOrders=true) (hkb:∀ r,kb≤r→me.L r=.absent) (hD0:∀ d∈D0,∀ D,d.target≠.collected D) (c:Code):∀ (s:AS) (Q:Ex→AS→Prop),awp T call kb N c s Q →
  ∀ (w:World) (m:Mp) (a:Act),Tr we me w m→St w m (hp s.K)→EnvOk w m s.t a.tmps→a.tmps.size=N→Mk bm we D0 w m a.defers→((ro=none∧bm=true)∨noRF c=true)→c.wpIn (FW ro) nn P (Rel bm N we me D0 Q) a w:=by
 induction c with
 | skip=>intro s Q h w m a hTr hS hE hN hd hrf;exact wpIn_skip ⟨hN,m,s,hd,hTr,hS,hE,h⟩
 | ret=>intro s Q h w m a hTr hS hE hN hd hrf;exact wpIn_ret ⟨hN,m,s,hd,hTr,hS,hE,h⟩
 | exit n=>intro s Q h w m a hTr hS hE hN hd hrf;exact wpIn_exit ⟨hN,m,s,hd,hTr,hS,hE,h⟩
 | region id ops draw =>
  intro s Q h w m a hTr hS hE hN hd hrf
  cases draw with
  | true =>
   replace h:wRegion T call N id ops true s Q:=h
   simp only [wRegion,ancsK_eq] at h
   split at h
   case h_2=>exact h.elim
   rename_i hB
   exact adraw_ok hT hcall hmix hB h w m a hTr hS hE hN hd
  | false=>exact wpIn_region_list (aops_ok hT hcall ops.toList _ _ h w m a hTr hS hE hN hd)
 | seq x y ihx ihy =>
  intro s Q h w m a hTr hS hE hN hd hrf
  replace h:awp T call kb N x s (wSeqK (awp T call kb N y) Q):=h
  refine wpIn_seq (wpIn_mono (ihx s _ h w m a hTr hS hE hN hd (hrf.imp id fun h=>by simp only [noRF,Bool.and_eq_true] at h;exact h.1)) (fun e a' w' hR=>?_))
  cases e with
  | normal =>
   obtain⟨h1,m',s',h2,h3,h4,h5,h6⟩:=hR
   exact ihy s' Q h6 w' m' a' h3 h4 h5 h1 h2 (hrf.imp id fun h=>by simp only [noRF,Bool.and_eq_true] at h;exact h.2)
  | exit n=>exact hR
  | ret=>exact hR
  | panic ch=>exact hR
  | goto l=>exact hR
  | outgrown=>exact hR
 | cond cc x y ihx ihy =>
  intro s Q h w m a hTr hS hE hN hd hrf
  cases cc with
  | tmp i =>
   replace h:wCond (.tmp i) x y (awp T call kb N x) (awp T call kb N y) s Q:=h
   simp only [wCond] at h
   split at h
   case h_2=>exact h.elim
   rename_i q hq
   have hb:=hE.bool hq
   have hev:a.eval (.tmp i)=.bool q:=by simp [Act.eval,Array.getD_eq_getD_getElem?,hb]
   have hE':=hE.know hq
   refine wpIn_cond hev ?_
   cases q with
   | true=>exact ihx _ Q h w m a hTr hS hE' hN hd (hrf.imp id fun h=>by simp only [noRF,Bool.and_eq_true] at h;exact h.1)
   | false=>exact ihy _ Q h w m a hTr hS hE' hN hd (hrf.imp id fun h=>by simp only [noRF,Bool.and_eq_true] at h;exact h.2)
  | const v =>
   replace h:wCond (.const v) x y (awp T call kb N x) (awp T call kb N y) s Q:=h
   simp only [wCond] at h
   split at h
   ·rename_i x i hx;cases hx
   ·rename_i q hq
    injection hq with hq
    subst hq
    refine wpIn_cond (t:=q) rfl ?_
    cases q with
    | true=>exact ihx _ Q h w m a hTr hS hE hN hd (hrf.imp id fun h=>by simp only [noRF,Bool.and_eq_true] at h;exact h.1)
    | false=>exact ihy _ Q h w m a hTr hS hE hN hd (hrf.imp id fun h=>by simp only [noRF,Bool.and_eq_true] at h;exact h.2)
   ·exact h.elim
  | global g=>exact h.elim
  | func f=>exact h.elim
 | block id x ih =>
  intro s Q h w m a hTr hS hE hN hd hrf
  refine wpIn_block (wpIn_mono (ih s _ h w m a hTr hS hE hN hd hrf) (fun e a' w' hR=>?_))
  cases e with
  | exit n =>
   obtain⟨h1,m',s',h2,h3,h4,h5,h6⟩:=hR
   simp only [Exit.inBlock]
   simp only [contB] at h6
   by_cases e:n=id
   ·subst e
    rw [if_pos rfl]
    rw [show Nat.beq n n=true by simp] at h6
    exact⟨h1,m',s',h2,h3,h4,h5,h6⟩
   ·rw [if_neg e]
    rw [show Nat.beq n id=false by cases e':Nat.beq n id with
     | true=>exact absurd (Nat.eq_of_beq_eq_true e') e
     | false=>rfl] at h6
    exact⟨h1,m',s',h2,h3,h4,h5,h6⟩
  | normal=>exact hR
  | ret=>exact hR
  | panic ch=>exact hR
  | goto l=>exact hR
  | outgrown=>exact hR
 | loop x ih =>
  intro s Q h w m a hTr hS hE hN hd hrf
  replace h:wLoop kb x (awp T call kb N x) s Q:=h
  unfold wLoop at h
  obtain⟨t',ht,hE'⟩:=fE_ok h
  rw [fK_eq] at ht
  replace hE:EnvOk w m t' a.tmps:=fun d=>by rw [hE' d rfl];exact hE d
  refine AtHead.loop ?_
  refine ht.out (fun s=>∀ (w:World) (m:Mp) (a:Act),Tr we me w m→St w m (hp s.K)→EnvOk w m s.t a.tmps→a.tmps.size=N→Mk bm we D0 w m a.defers→AtHead P ro x (Rel bm N we me D0 Q) a w) ?_ ?_ w m a hTr hS hE hN hd
  ·intro s hs w m a hTr hS hE hN hd
   refine AtHead.step (nn:=nn) (wpIn_mono (ih s _ hs w m a hTr hS hE hN hd hrf) (fun e a' w' hR=>?_))
   cases e with
   | normal =>
    obtain⟨h1,m',s',h2,h3,h4,h5,h6⟩:=hR
    exact h6 w' m' a' h3 h4 h5 h1 h2
   | exit n=>exact hR
   | ret=>exact hR
   | panic ch=>exact hR
   | goto l=>exact hR
   | outgrown=>exact hR
  ·intro s s' hle hs w m a hTr hS hE hN hd
   obtain⟨m',h1,h2,h3,h4⟩:=hle we me hkb w m a.tmps hTr hS hE
   exact hs w m' a h1 h2 h3 hN (hd.sub h4)
 | rangeFunc g ps assign body _ _ =>
  intro s Q h w m a hTr hS hE hN hd hrf
  obtain⟨hro,hbm⟩:=hrf.resolve_right (by simp [noRF])
  exact rangeF_ok (x:=awp T call kb N assign) (y:=awp T call kb N body) hT hcall hmix hD0 hro hbm g ps assign body s Q h w m a hTr hS hE hN hd
 | scope=>intro s Q h;exact h.elim
 | label=>intro s Q h;exact h.elim
 | goto=>intro s Q h;exact h.elim
 | refuse=>intro s Q h;exact h.elim
theorem bindPs_ok {w:World} {m:Mp}:∀ (ps:List Nat) (args:List AV) (Args:List Value) (env:List (Nat×AV)) (tmps:Array Value) (t:List (Nat×AV)),bindPs N ps args env=some t→args.length=Args.length →
  (∀ j (hj:j<args.length) (hj':j<Args.length),V w m args[j] Args[j])→EnvOk w m env tmps→tmps.size=N →
  EnvOk w m t ((ps.zip Args).foldl (fun tmps (t,a)=>tmps.setIfInBounds t a) tmps)∧((ps.zip Args).foldl (fun tmps (t,a)=>tmps.setIfInBounds t a) tmps).size=N∧Args.length=ps.length:=by
 intro ps
 induction ps with
 | nil =>
  intro args Args env tmps t h hl hv hE hN
  cases args with
  | nil =>
   simp only [bindPs,Option.some.injEq] at h
   subst h
   exact⟨by simpa using hE,by simpa using hN,by simpa using hl.symm⟩
  | cons a args=>simp [bindPs] at h
 | cons p ps ih =>
  intro args Args env tmps t h hl hv hE hN
  cases args with
  | nil=>simp [bindPs] at h
  | cons a args =>
   cases Args with
   | nil=>simp at hl
   | cons u Args =>
    simp only [bindPs] at h
    split at h
    case h_2=>simp at h
    rename_i hb
    have hp:=Nat.le_of_ble_eq_true hb
    have hv0:V w m a u:=hv 0 (by simp) (by simp)
    obtain⟨h1,h2,h3⟩:=ih args Args _ (tmps.setIfInBounds p u) t h (by simpa using hl) (fun j hj hj'=>hv (j+1) (by simp;omega) (by simp;omega)) (hE.set (by omega) hv0) (by simpa using hN)
    exact⟨by simpa using h1,by simpa using h2,by simp [h3]⟩
theorem around_ok (hT:TabOk P T) (hcall:CallOk P call) (hmix:P.follows .mixedOrders=true) {r:Nat} {args:List AV} {K:List ABlk} {k:AO→List ABlk→Prop} (h:around T call r args K k):ARound P r args K k:=by
 intro w m Args u hS hA hu
 unfold around rd2 at h
 split at h
 case h_2=>exact h.elim
 rename_i st env N' ps assign body hnth
 cases st with
 | ready =>
  simp only at h
  split at h
  case h_2=>exact h.elim
  rename_i t hbind
  split at h
  case h_2=>exact h.elim
  rename_i hrf
  simp only [Bool.and_eq_true] at hrf
  rw [fK_eq] at h
  have hb:=hS.blk r
  rw [hp_nth hnth] at hb
  obtain⟨hl,p,fn,tmps,D,hh,hp',hsz,hV⟩:=hb
  have hp'':p=none:=hp'
  subst hp''
  have hlive:(m.L r).isLive:=by rw [hl];trivial
  have hue:u=.func (.yield (m.ρ r)) #[] #[]:=by
   cases hu with
   | yld=>rfl
   | yldOld _ b ho=>rw [hl] at ho;simp [Inf.old] at ho
  obtain⟨hE1,hN1,hlen⟩:=bindPs_ok ps.toList args Args.toList env tmps t hbind (by simpa using hA.1) (fun j hj hj'=>by simpa using hA.2 j hj (by simpa using hj')) (fun d=>hV d) hsz
  have hfold:(ps.zip Args).foldl (fun tmps (t,a)=>tmps.setIfInBounds t a) tmps=(ps.toList.zip Args.toList).foldl (fun tmps (t,a)=>tmps.setIfInBounds t a) tmps:=by
   rw [← Array.foldl_toList,Array.toList_zip]
  rw [← hfold] at hE1 hN1
  refine⟨m.ρ r,fn,_,assign,body,hue,run_yield hh (by simpa using hlen),fun n=>roundIn_of_wpIn trivial ?_⟩
  have hkb:∀ r,len K≤r→m.L r=.absent:=fun r hr=>hS.absent (by
   simp only [hp,nth_eq]
   rw [len_eq] at hr
   rw [List.getElem?_eq_none hr])
  refine wpIn_mono (awp_ok (ro:=some (m.ρ r)) (bm:=true) (D0:=[]) (we:=w) (me:=m) hT hcall hmix hkb (fun d hd=>by simp at hd) assign _ _ h w m { tmps:=(ps.zip Args).foldl (fun tmps (t,a)=>tmps.setIfInBounds t a) tmps,defers:=[] } (Tr.refl w m) hS hE1 hN1 .base (.inr hrf.1)) ?_
  intro e a1 w1 hR
  cases e with
  | normal =>
   obtain⟨hN2,m1,s1,hM1,hT1,hS1,hE2,hQ⟩:=hR
   simp only [aroundB,rd2] at hQ
   split at hQ
   case h_2=>exact hQ.elim
   rename_i st1 env1 N1 ps1 as1 bd1 hnth1
   cases st1 with
   | ready =>
    simp only [fL_eq] at hQ
    have hb1:=hS1.blk r
    rw [hp_nth hnth1] at hb1
    obtain⟨hl1,p1,fn1,tmps1,D1,hh1,hp1,hsz1,hV1⟩:=hb1
    have hlive1:(m1.L r).isLive:=by rw [hl1];trivial
    have hρ1:m1.ρ r=m.ρ r:=lp_stands hT1 hl hl1
    have hp1':p1=none:=hp1
    subst hp1'
    obtain⟨o,ho⟩:∃ o:Obj,o=.loop { state:=.busy,pending:=none,fn:=fn1,tmps:=tmps1,params:=ps1,assign:=as1,body:=bd1,defers:=D1 }:=⟨_,rfl⟩
    have hT3:=Tr.putObj hS1 r hlive1 o
    have hS3:=hS1.putObj r hlive1 o (.lp .busy env1 N1 ps1 as1 bd1) ⟨hl1,none,fn1,tmps1,D1,by rw [World.putObj_heap_same (hS1.lt _ hlive1),ho];rfl,rfl,hsz1,fun d=>(hV1 d).mono hT3⟩
    rw [← hp_set s1.K r _ _ hnth1] at hS3
    refine⟨_,run_beginRound (by rw [← hρ1];exact hh1) rfl,?_⟩
    show Code.wpIn (FW (some (m.ρ r))) n P body _ a1 (w1.putObj (m.ρ r) (.loop { state:=.busy,pending:=none,fn:=fn1,tmps:=tmps1,params:=ps1,assign:=as1,body:=bd1,defers:=D1 }))
    rw [← ho,← hρ1]
    refine wpIn_mono (awp_ok (ro:=some (m1.ρ r)) (bm:=true) (D0:=[]) (we:=w) (me:=m) hT hcall hmix hkb (fun d hd=>by simp at hd) body _ _ hQ (w1.putObj (m1.ρ r) o) m1 a1 (hT1.trans hT3) hS3 (hE2.mono hT3) hN2 (hM1.mono hT3) (.inr hrf.2)) ?_
    have fin:∀ (jump:Option Code) (st':LSt) (w4:World) (m4:Mp) (s4:AS) (env4:List (Nat×AV)) (N4:Nat) (ps4:Array Tmp) (as4 bd4:Code),Tr w m w4 m4→St w4 m4 (hp s4.K)→nth s4.K r=some (.lp LSt.busy env4 N4 ps4 as4 bd4)∨(∃ st,nth s4.K r=some (.lp st env4 N4 ps4 as4 bd4)) →
      st'.state=(if jump.isNone then .ready else .done)→st'.pends jump →
      k (.ret (.p (.bool jump.isNone))) (setN s4.K r (.lp st' env4 N4 ps4 as4 bd4)) →
      ∃ v w5,(Instr.endRound (m1.ρ r) jump).run P w4=.ok v w5∧Post w m k (.returned v) w5:=by
     intro jump st' w4 m4 s4 env4 N4 ps4 as4 bd4 hT4 hS4 hn4 hst hpd hk
     obtain⟨st4,hn4⟩:∃ st,nth s4.K r=some (.lp st env4 N4 ps4 as4 bd4):=by
      rcases hn4 with h|h
      ·exact⟨_,h⟩
      ·exact h
     have hb4:=hS4.blk r
     rw [hp_nth hn4] at hb4
     obtain⟨hl4,p4,fn4,tmps4,D4,hh4,hp4,hsz4,hV4⟩:=hb4
     have hlive4:(m4.L r).isLive:=by rw [hl4];trivial
     have hρ4:m4.ρ r=m1.ρ r:=(lp_stands hT4 hl hl4).trans hρ1.symm
     obtain⟨o4,ho4⟩:∃ o:Obj,o=.loop { state:=(if jump.isNone then .ready else .done),pending:=jump,fn:=fn4,tmps:=tmps4,params:=ps4,assign:=as4,body:=bd4,defers:=D4 }:=⟨_,rfl⟩
     have hT5:=Tr.putObj hS4 r hlive4 o4
     have hS5:=hS4.putObj r hlive4 o4 (.lp st' env4 N4 ps4 as4 bd4) ⟨hl4,jump,fn4,tmps4,D4,by rw [World.putObj_heap_same (hS4.lt _ hlive4),ho4,hst],hpd,hsz4,fun d=>(hV4 d).mono hT5⟩
     rw [← hp_set s4.K r _ _ hn4] at hS5
     refine⟨_,_,run_endRound jump (by rw [← hρ4];exact hh4),?_⟩
     rw [hρ4,ho4] at hT5 hS5
     exact⟨m4,_,_,hT4.trans hT5,hS5,.p _ _ (.bool _),hk⟩
    intro e a2 w2 hR2
    cases e with
    | normal =>
     obtain⟨_,m4,s4,_,hT4,hS4,_,hQ4⟩:=hR2
     simp only [aroundE,rd2,fL_eq,fK_eq] at hQ4
     split at hQ4
     case h_2=>exact hQ4.elim
     rename_i hn4
     exact fin none .ready w2 m4 s4 _ _ _ _ _ hT4 hS4 (.inr ⟨_,hn4⟩) rfl rfl hQ4
    | ret =>
     obtain⟨_,m4,s4,_,hT4,hS4,_,hQ4⟩:=hR2
     simp only [aroundE,rd2,fL_eq,fK_eq] at hQ4
     split at hQ4
     case h_2=>exact hQ4.elim
     rename_i hn4
     exact fin (some .ret) .ret w2 m4 s4 _ _ _ _ _ hT4 hS4 (.inr ⟨_,hn4⟩) rfl rfl hQ4
    | exit id =>
     obtain⟨_,m4,s4,_,hT4,hS4,_,hQ4⟩:=hR2
     simp only [aroundE,rd2,fL_eq,fK_eq] at hQ4
     split at hQ4
     case h_2=>exact hQ4.elim
     rename_i hn4
     exact fin (some (.exit id)) (.exit id) w2 m4 s4 _ _ _ _ _ hT4 hS4 (.inr ⟨_,hn4⟩) rfl rfl hQ4
    | panic ch=>obtain⟨_,_,_,_,_,_,_,_,_,_,_,hQ4⟩:=hR2;exact hQ4.elim
    | goto l=>exact hR2.elim
    | outgrown=>exact hR2.elim
   | _=>exact hQ.elim
  | exit n=>obtain⟨_,_,_,_,_,_,_,hQ⟩:=hR;exact hQ.elim
  | ret=>obtain⟨_,_,_,_,_,_,_,hQ⟩:=hR;exact hQ.elim
  | panic ch=>obtain⟨_,_,_,_,_,_,_,_,_,_,_,hQ⟩:=hR;exact hQ.elim
  | goto l=>exact hR.elim
  | outgrown=>exact hR.elim
 | _=>exact h.elim
def resOf (tmps:Array Value):ResultVar→Sem Value
 | .tmp t=>pure (tmps.getD t undef)
 | .cell a t=>do loadVar t (← asAddr (tmps.getD a undef))
theorem ares1_ok (hT:TabOk P T) {w:World} {m:Mp} {t:List (Nat×AV)} {K:List ABlk} {a:Act} (hS:St w m (hp K)) (hE:EnvOk w m t a.tmps) {r:ResultVar} {q:AV→Prop} (h:ares1 T t K r q) :
  ∃ u v,(resOf a.tmps r).run P w=.ok u w∧V w m v u∧q v:=by
 cases r with
 | tmp i =>
  simp only [ares1,fV_eq] at h
  exact⟨_,_,rfl,hE i,h⟩
 | cell i ty =>
  simp only [ares1] at h
  obtain⟨ad,x,b,e,h1,h2,h3⟩:=opLoad_same (k:=fun v _=>q v) hT hS (hE i) h
  exact⟨x,b,by simp [resOf,e,asAddr,h1],h2,h3⟩
theorem aresL_ok (hT:TabOk P T) {w:World} {m:Mp} {t:List (Nat×AV)} {K:List ABlk} {a:Act} (hS:St w m (hp K)) (hE:EnvOk w m t a.tmps) (l:List ResultVar):∀ (q:List AV→Prop),aresL T t K q l →
  ∃ (us:List Value) (vs:List AV),(l.mapM (resOf a.tmps)).run P w=.ok us w∧VL w m vs us.toArray∧q vs:=by
 induction l with
 | nil=>intro q h;exact⟨[],[],rfl,VL.nil w m,h⟩
 | cons r l ih =>
  intro q h
  rw [aresL_cons] at h
  obtain⟨u,v,h1,h2,h3⟩:=ares1_ok hT hS hE h
  obtain⟨us,vs,h4,h5,h6⟩:=ih _ h3
  refine⟨u::us,v::vs,?_,?_,h6⟩
  ·rw [List.mapM_cons,Sem.run_bind,h1]
   simp only [Result.andThen_ok,Sem.run_bind,h4,Sem.run_pure]
  ·refine⟨by have:=h5.1;simpa using this,fun j hj hj'=>?_⟩
   cases j with
   | zero=>exact h2
   | succ j =>
    have:=h5.2 j (by simpa using hj) (by simpa using hj')
    simpa using this
theorem ares_ok (hT:TabOk P T) {w:World} {m:Mp} {s:AS} {a:Act} (hS:St w m (hp s.K)) (hE:EnvOk w m s.t a.tmps) {fn:Func} {q:AV→Prop} (h:ares T fn s q) :
  ∃ u v,(results fn a.tmps).run P w=.ok u w∧V w m v u∧q v:=by
 unfold ares at h
 obtain⟨us,vs,h1,h2,h3⟩:=aresL_ok hT hS hE fn.results.toList _ h
 have hm:(fn.results.mapM (resOf a.tmps)).run P w=.ok us.toArray w:=by
  rw [Array.mapM_eq_mapM_toList,Sem.run_map,h1]
  rfl
 have hl:=h2.1
 have hr:(results fn a.tmps).run P w=.ok (if h:us.toArray.size=1 then us.toArray[0] else .tuple us.toArray) w:=by
  have e:results fn a.tmps=(do let vs ← fn.results.mapM (resOf a.tmps);pure (if h:vs.size=1 then vs[0] else .tuple vs)):=by
   unfold results
   congr 1
  rw [e,Sem.run_bind,hm]
  rfl
 match vs,h2,hl,h3 with
 | [v],h2,hl,h3 =>
  have h1':us.toArray.size=1:=by simpa using hl.symm
  rw [dif_pos h1'] at hr
  exact⟨_,v,hr,h2.2 0 (by simp) (by omega),h3⟩
 | [],h2,hl,h3 =>
  have h1':¬ us.toArray.size=1:=by simp at hl;simp [← hl]
  rw [dif_neg h1'] at hr
  exact⟨_,_,hr,.tup _ _ h2.1 h2.2,h3⟩
 | v::v'::vs,h2,hl,h3 =>
  have h1':¬ us.toArray.size=1:=by simp at hl;simp [← hl]
  rw [dif_neg h1'] at hr
  exact⟨_,_,hr,.tup _ _ h2.1 h2.2,h3⟩
theorem look_frame0 (l:List AV) (i d:Nat):look (frame0 i l) d=if h:i≤d∧d<i+l.length then l[d - i]'(by omega) else .junk:=by
 induction l generalizing i with
 | nil=>simp only [frame0,look,List.length_nil,Nat.add_zero];rw [dif_neg (by omega)]
 | cons a l ih =>
  simp only [frame0]
  rw [look_cons]
  by_cases e:i=d
  ·subst e;rw [if_pos rfl,dif_pos (by simp)];simp
  ·rw [if_neg e,ih]
   by_cases h:i+1≤d∧d<i+1+l.length
   ·rw [dif_pos h,dif_pos (by simp;omega)]
    simp only [show d - i=(d - (i+1))+1 by omega,List.getElem_cons_succ]
   ·rw [dif_neg h,dif_neg (by simp;omega)]
theorem EnvOk.frame {w:World} {m:Mp} {args:List AV} {Args:Array Value} (h:VL w m args Args) (n:Nat):EnvOk w m (frame0 0 args) (Args++Array.replicate n undef):=by
 intro d
 rw [look_frame0]
 by_cases hd:d<args.length
 ·rw [dif_pos (by omega)]
  have hd':d<Args.size:=by rw [← h.1];exact hd
  have e:(Args++Array.replicate n undef).getD d undef=Args[d]:=by
   rw [Array.getD_eq_getD_getElem?,Array.getElem?_append_left hd']
   simp [hd']
  rw [e]
  simpa using h.2 d hd hd'
 ·rw [dif_neg (by omega)]
  exact .junk _
theorem take_mark {w:World} {m:Mp} {H:Nat→ABlk} {D:Nat} {ds:List Deferred} (hI:∀ b,me.I b→b<we.heap.size) (h1:Tr we me w m) (h2:St w m H)
  (h:Mk bm we D0 w m ds) (hW:we.heap.size≤D) (hI':¬ m.I D) (hO:∀ r,(m.L r).isLive→m.ρ r≠D) (h5:∀ d∈ds,d.target≠.collected D) :
  Tr we me (w.putObj D (.deferred none)) m∧St (w.putObj D (.deferred none)) m H∧Mk bm we D0 (w.putObj D (.deferred none)) m ds:=by
 refine⟨h1.aside D hW hI _,h2.aside D hI' hO _,?_⟩
 induction h with
 | base=>exact .base
 | mark hb D' ds k1 k2 k3 k4 k5 _ ih =>
  refine .mark hb D' ds k1 ((World.putObj_heap_other (fun e=>?_)).trans k2) k3 k4 k5 (ih fun d hd=>h5 d (List.mem_cons_of_mem _ hd))
  exact h5 _ (List.mem_cons_self ..) (by rw [e])
theorem leaves_marks {fn:Func} {tmps:Array Value} {R:Ending→World→Prop} {m:Mp} {H:Nat→ABlk} {u:FrameMode} (hu:u≠.run) (hI:∀ b,me.I b→b<we.heap.size):∀ (ds:List Deferred) (w:World),
  Tr we me w m→St w m H→Mk bm we [] w m ds→(∀ w',Tr we me w' m→St w' m H→(∀ a u,V w m a u→V w' m a u)→LeavesIn (FW none) 0 P fn tmps R [] u w')→LeavesInM (FW none) 0 P fn tmps R ds u w:=by
 intro ds
 induction ds with
 | nil=>intro w h1 h2 _ h;exact h w h1 h2 (fun _ _ h=>h)
 | cons d ds ih =>
  intro w h1 h2 hd h
  cases hd with
  | mark hb D ds k1 k2 k3 k4 k5 k6 =>
   obtain⟨h3,h4,h5⟩:=take_mark hI h1 h2 k6 k1 k3 k4 k5
   refine⟨hu,.inl ⟨D,_,rfl,run_takeDeferred k2,ih _ h3 h4 h5 fun w' e1 e2 e3=>h w' e1 e2 fun a u hv=>e3 a u (hv.aside D k3 _)⟩⟩
theorem abody_ok (hT : TabOk P T) (hcall : CallOk P call) (hmix : P.follows .mixedOrders = true) {f : FuncId} {fn : Func} (hf : P.funcs[f]? = some fn) (hn : (fn.name == "runtime.NumGoroutine") = false) {args : List AV} {K : List ABlk} {k : AO → List ABlk → Prop}
  (h:abody T call fn args K k):ACalls P f args K k:=by
 unfold abody at h
 cases hb:fn.body with
 | none=>rw [hb] at h;exact h.elim
 | some c =>
  rw [hb] at h
  simp only at h
  cases hl:Nat.ble (len args) fn.ntmps with
  | false=>rw [hl] at h;exact h.elim
  | true =>
   rw [hl] at h
   have hle:args.length≤fn.ntmps:=by have:=Nat.le_of_ble_eq_true hl;rwa [len_eq] at this
   refine⟨⟨fn,hf,hn,by rw [hb];rfl⟩,fun w m Args hS hA=>(callsIn_wide (n:=0)).1 (callsIn_of_wp_marks hf hb trivial ?_)⟩
   have hkb:∀ r,len K≤r→m.L r=.absent:=fun r hr=>hS.absent (by
    simp only [hp,nth_eq]
    rw [len_eq] at hr
    rw [List.getElem?_eq_none hr])
   simp only [fK_eq,fV_eq] at h
   refine wpIn_mono (awp_ok (ro:=none) (bm:=true) (D0:=[]) (we:=w) (me:=m) hT hcall hmix hkb (fun d hd=>by simp at hd) c _ _ h w m _ (Tr.refl w m) hS (EnvOk.frame hA _) (by simp;have:=hA.1;omega) .base (.inl ⟨rfl,rfl⟩)) (fun e a w' hR=>?_)
   cases e with
   | normal =>
    obtain⟨_,m',s',hd,h1,h2,h3,h4⟩:=hR
    refine leaves_marks (by simp) hS.Ilt a.defers w' h1 h2 hd fun w2 e1 e2 e3=>?_
    obtain⟨u,v,h5,h6,h7⟩:=ares_ok (s:=s') (a:=a) hT e2 (fun d=>e3 _ _ (h3 d)) h4
    exact⟨u,h5,m',v,s'.K,e1,e2,h6,h7⟩
   | ret =>
    obtain⟨_,m',s',hd,h1,h2,h3,h4⟩:=hR
    refine leaves_marks (by simp) hS.Ilt a.defers w' h1 h2 hd fun w2 e1 e2 e3=>?_
    obtain⟨u,v,h5,h6,h7⟩:=ares_ok (s:=s') (a:=a) hT e2 (fun d=>e3 _ _ (h3 d)) h4
    exact⟨u,h5,m',v,s'.K,e1,e2,h6,h7⟩
   | panic ch =>
    obtain⟨_,m',s',v,u,hd,rfl,h1,h2,h3,h4,h5⟩:=hR
    exact leaves_marks (by simp) hS.Ilt a.defers w' h1 h2 hd fun w2 e1 e2 e3=>⟨m',v,u,s'.K,rfl,e1,e2,e3 _ _ h4,h5⟩
   | exit n=>obtain⟨_,_,_,_,_,_,_,h⟩:=hR;exact h.elim
   | goto l=>exact hR
   | outgrown=>exact hR.elim
abbrev AG:=FuncId→Option (List AV→List ABlk→(AO→List ABlk→Prop)→Prop)
def GOk (P:Program) (G:AG):Prop:=∀ f g,G f=some g→∀ args K k,g args K k→ACalls P f args K k
theorem acall_ok (hT:TabOk P T) (hmix:P.follows .mixedOrders=true) {G:AG} (hG:GOk P G) (n:Nat):CallOk P (acall T G n):=by
 induction n with
 | zero=>intro f args K k h;exact h.elim
 | succ n ih =>
  intro f args K k h
  rw [acall_succ] at h
  unfold acallS at h
  cases hb:Nat.blt f 1000000000 with
  | false =>
   rw [hb] at h
   exact⟨fun e=>by simp at e,fun _=>around_ok hT ih hmix h⟩
  | true =>
   rw [hb] at h
   refine⟨fun _=>?_,fun e=>by simp at e⟩
   simp only at h
   cases hg:G f with
   | some g=>rw [hg] at h;exact hG f g hg args K k h
   | none =>
    rw [hg] at h
    simp only at h
    cases hf:T.f.get f with
    | none=>rw [hf] at h;exact h.elim
    | some fn =>
     rw [hf] at h
     obtain⟨h1,h2⟩:=hT.f f fn hf
     exact abody_ok hT ih hmix h1 h2 h
def acall1 (T:Tab) (G:AG) (n:Nat):ACall:=fun f args K k=>match T.f.get f with
 | some fn=>abody T (acall T G n) fn args K k
 | none=>False
theorem acall1_ok (hT:TabOk P T) (hmix:P.follows .mixedOrders=true) {G:AG} (hG:GOk P G) (n:Nat) (f:FuncId) (args:List AV) (K:List ABlk) (k:AO→List ABlk→Prop) (h:acall1 T G n f args K k):ACalls P f args K k:=by
 unfold acall1 at h
 cases hf:T.f.get f with
 | none=>rw [hf] at h;exact h.elim
 | some fn =>
  rw [hf] at h
  obtain⟨h1,h2⟩:=hT.f f fn hf
  exact abody_ok hT (acall_ok hT hmix hG n) hmix h1 h2 h
end
end Go.AE
namespace Go.AE
def zB:PV→Value→Bool
 | .int k n,.int k' n'=>decide (k=k')&&decide (n=n')
 | .bool b,.bool b'=>b==b'
 | .str l,.string s=>l==s.data.toList
 | .nilp,.pointer none=>true
 | .nils,.slice none 0 0=>true
 | .nilf,.nilFunc=>true
 | .nili,.nilIface=>true
 | .nilm,.map none=>true
 | _,_=>false
theorem zB_ok {v:PV} {u:Value} (h:zB v u=true) (w:World) (I:Nat→Prop):VP w I v u:=by
 unfold zB at h
 split at h
 ·simp only [Bool.and_eq_true,decide_eq_true_eq] at h;obtain⟨rfl,rfl⟩:=h;exact .int ..
 ·simp only [beq_iff_eq] at h;subst h;exact .bool ..
 ·simp only [beq_iff_eq] at h;subst h;exact .str _ _ rfl
 ·exact .nilp
 ·exact .nils
 ·exact .nilf
 ·exact .nili
 ·exact .nilm
 ·simp at h
def zLB:List PV→List Value→Bool
 | [],[]=>true
 | v::l,u::l'=>zB v u&&zLB l l'
 | _,_=>false
theorem zLB_ok {l:List PV} {l':List Value} (h:zLB l l'=true):l.length=l'.length∧∀ w I j (hj:j<l.length) (hj':j<l'.length),VP w I l[j] l'[j]:=by
 induction l generalizing l' with
 | nil=>cases l' with
  | nil=>exact⟨rfl,fun w I j hj=>by simp at hj⟩
  | cons u l'=>simp [zLB] at h
 | cons v l ih=>cases l' with
  | nil=>simp [zLB] at h
  | cons u l' =>
   simp only [zLB,Bool.and_eq_true] at h
   obtain⟨h1,h2⟩:=ih h.2
   refine⟨by simp [h1],fun w I j hj hj'=>?_⟩
   cases j with
   | zero=>exact zB_ok h.1 w I
   | succ j=>simpa using h2 w I j (by simpa using hj) (by simpa using hj')
def fsB (P:Program):List Field→List (Nat×Nat)→Bool
 | [],[]=>true
 | f::l,(o,t)::l'=>Nat.beq f.offset o&&Nat.beq f.type t&&(P.info? f.type).isSome&&fsB P l l'
 | _,_=>false
theorem fsB_ok {P:Program} {l:List Field} {l':List (Nat×Nat)} (h:fsB P l l'=true):l.map (fun f=>(f.offset,f.type))=l'∧∀ f∈l,(P.info? f.type).isSome=true:=by
 induction l generalizing l' with
 | nil=>cases l' with
  | nil=>exact⟨rfl,by simp⟩
  | cons u l'=>simp [fsB] at h
 | cons f l ih=>cases l' with
  | nil=>simp [fsB] at h
  | cons u l' =>
   obtain⟨o,t⟩:=u
   simp only [fsB,Bool.and_eq_true] at h
   obtain⟨⟨⟨h1,h2⟩,h3⟩,h4⟩:=h
   obtain⟨h5,h6⟩:=ih h4
   refine⟨?_,fun g hg=>?_⟩
   ·rw [List.map_cons,h5,Nat.eq_of_beq_eq_true h1,Nat.eq_of_beq_eq_true h2]
   ·cases List.mem_cons.1 hg with
    | inl e=>rw [e];exact h3
    | inr e=>exact h6 g e
def utB (P:Program):UT→TypeDesc→Bool
 | .int k,.int k'=>decide (k=k')
 | .bool,.bool=>true
 | .string,.string=>true
 | .slice e,.slice e'=>Nat.beq e e'
 | .ptr e,.pointer e'=>Nat.beq e e'
 | .struct fs,.struct fields=>fsB P fields.toList fs
 | .array n e,.array n' e'=>Nat.beq n n'&&Nat.beq e e'
 | .map k e,.map k' e'=>Nat.beq k k'&&Nat.beq e e'
 | .func,.func _ _ _=>true
 | .iface,.interface _=>true
 | .other,_=>true
 | _,_=>false
theorem utB_ok {P:Program} {u:UT} {d:TypeDesc} (h:utB P u d=true):utOk P u d:=by
 unfold utB at h
 split at h
 ·simp only [decide_eq_true_eq] at h;subst h;rfl
 ·rfl
 ·rfl
 ·have:=Nat.eq_of_beq_eq_true h;subst this;rfl
 ·have:=Nat.eq_of_beq_eq_true h;subst this;rfl
 ·exact⟨_,rfl,fsB_ok h⟩
 ·simp only [Bool.and_eq_true] at h
  have h1:=Nat.eq_of_beq_eq_true h.1
  have h2:=Nat.eq_of_beq_eq_true h.2
  subst h1 h2;rfl
 ·simp only [Bool.and_eq_true] at h
  have h1:=Nat.eq_of_beq_eq_true h.1
  have h2:=Nat.eq_of_beq_eq_true h.2
  subst h1 h2;rfl
 ·exact⟨_,_,_,rfl⟩
 ·exact⟨_,rfl⟩
 ·trivial
 ·simp at h
def tiB (P:Program) (t:Nat) (ti:TI):Bool :=
 match P.info? t with
 | none=>false
 | some i=>match P.underlying t with
  | none=>false
  | some d=>match i.zero with
   | none=>false
   | some z=>Nat.beq i.size ti.size&&Nat.beq i.bytes ti.bytes&&utB P ti.u d&&zLB ti.zero z.cells.toList&&(ti.agg==aggOf d)&&(ti.agg==zAgg z)
theorem tiB_ok {P:Program} {t:Nat} {ti:TI} (h:tiB P t ti=true):TIok P t ti:=by
 unfold tiB at h
 cases hi:P.info? t with
 | none=>rw [hi] at h;simp at h
 | some i =>
  rw [hi] at h
  simp only at h
  cases hu:P.underlying t with
  | none=>rw [hu] at h;simp at h
  | some d =>
   rw [hu] at h
   simp only at h
   cases hz:i.zero with
   | none=>rw [hz] at h;simp at h
   | some z =>
    rw [hz] at h
    simp only [Bool.and_eq_true,beq_iff_eq] at h
    obtain⟨⟨⟨⟨⟨h1,h2⟩,h3⟩,h4⟩,h5⟩,h5'⟩:=h
    obtain⟨h6,h7⟩:=zLB_ok h4
    exact⟨i,d,z,hi,hu,Nat.eq_of_beq_eq_true h1,Nat.eq_of_beq_eq_true h2,utB_ok h3,hz,⟨by simpa using h6,fun w I j hj hj'=>by have:=h7 w I j hj (by simpa using hj');rwa [Array.getElem_toList] at this⟩,h5,h5'⟩
def TT.all {α:Type} (p:Nat→α→Bool):TT α→Bool
 | .leaf=>true
 | .node l k v r=>l.all p&&p k v&&r.all p
theorem TT.all_get {α:Type} {p:Nat→α→Bool} {t:TT α} (h:t.all p=true) {k:Nat} {v:α} (hg:t.get k=some v):p k v=true:=by
 induction t with
 | leaf=>simp [TT.get] at hg
 | node l k' v' r ihl ihr =>
  simp only [TT.all,Bool.and_eq_true] at h
  simp only [TT.get] at hg
  split at hg
  ·rename_i e
   have:=Nat.eq_of_beq_eq_true e
   subst this
   injection hg with hg
   subst hg
   exact h.1.2
  ·split at hg
   ·exact ihl h.1.1 hg
   ·exact ihr h.2 hg
def FAll (P:Program):TT Func→Prop
 | .leaf=>True
 | .node l k v r=>FAll P l∧P.funcs[k]?=some v∧FAll P r
theorem FAll.get {P:Program} {t:TT Func} (h:FAll P t) {k:Nat} {v:Func} (hg:t.get k=some v):P.funcs[k]?=some v:=by
 induction t with
 | leaf=>simp [TT.get] at hg
 | node l k' v' r ihl ihr =>
  obtain⟨h1,h2,h3⟩:=h
  simp only [TT.get] at hg
  split at hg
  ·rename_i e
   have:=Nat.eq_of_beq_eq_true e
   subst this
   injection hg with hg
   subst hg
   exact h2
  ·split at hg
   ·exact ihl h1 hg
   ·exact ihr h3 hg
theorem TabOk.of {P : Program} {T : Tab} (h1 : T.t.all (tiB P) = true) (h2 : FAll P T.f) (h3 : T.f.all (fun _ fn => !(fn.name == "runtime.NumGoroutine")) = true) : TabOk P T :=
 ⟨fun _ _ hg=>tiB_ok (TT.all_get h1 hg),fun _ _ hg=>⟨h2.get hg,by have:=TT.all_get h3 hg;simpa using this⟩⟩
end Go.AE
namespace Go.Proofs.YtojjkleplnijaaaGreatDoor
open Go.AE
set_option maxRecDepth 100000
noncomputable def Tt:TT TI:=(.node (.node (.node (.node (.node (.node (.node (.node .leaf 1 ⟨.func,1,8,[.nilf],false⟩ .leaf) 2 ⟨.int .i64,1,8,[.int .i64 0],false⟩ (.node .leaf 3 ⟨.int .i64,1,8,[.int .i64 0],false⟩ .leaf)) 4 ⟨.bool,1,1,[.bool false],false⟩ (.node (.node .leaf 5 ⟨.int .u8,1,1,[.int .u8 0],false⟩ .leaf) 6 ⟨.int .u8,1,1,[.int .u8 0],false⟩ (.node .leaf 7 ⟨.struct [(0,2),(1,3),(2,4),(3,6)],4,24,[.int .i64 0,.int .i64 0,.bool false,.int .u8 0],true⟩ .leaf))) 8 ⟨.struct [(0,2),(1,3),(2,4),(3,6)],4,24,[.int .i64 0,.int .i64 0,.bool false,.int .u8 0],true⟩ (.node (.node (.node .leaf 9 ⟨.string,1,16,[.str []],false⟩ .leaf) 10 ⟨.string,1,16,[.str []],false⟩ (.node .leaf 11 ⟨.string,1,16,[.str []],false⟩ .leaf)) 12 ⟨.int .u64,1,8,[.int .u64 0],false⟩ (.node (.node .leaf 13 ⟨.struct [(0,9),(1,12)],2,24,[.str [],.int .u64 0],true⟩ .leaf) 14 ⟨.struct [(0,9),(1,12)],2,24,[.str [],.int .u64 0],true⟩ .leaf))) 15 ⟨.ptr 232,1,8,[.nilp],false⟩ (.node (.node (.node (.node .leaf 16 ⟨.ptr 235,1,8,[.nilp],false⟩ .leaf) 17 ⟨.ptr 242,1,8,[.nilp],false⟩ (.node .leaf 18 ⟨.struct [(0,17)],1,8,[.nilp],true⟩ .leaf)) 19 ⟨.struct [(0,17)],1,8,[.nilp],true⟩ (.node (.node .leaf 20 ⟨.iface,1,16,[.nili],false⟩ .leaf) 21 ⟨.int .i32,1,4,[.int .i32 0],false⟩ .leaf)) 22 ⟨.slice 61,1,24,[.nils],false⟩ (.node (.node (.node .leaf 23 ⟨.struct [(0,22),(1,3)],2,32,[.nils,.int .i64 0],true⟩ .leaf) 24 ⟨.struct [(0,22),(1,3)],2,32,[.nils,.int .i64 0],true⟩ (.node .leaf 25 ⟨.func,1,8,[.nilf],false⟩ .leaf)) 26 ⟨.func,1,8,[.nilf],false⟩ (.node (.node .leaf 27 ⟨.int .i64,1,8,[.int .i64 0],false⟩ .leaf) 29 ⟨.func,1,8,[.nilf],false⟩ .leaf)))) 30 ⟨.func,1,8,[.nilf],false⟩ (.node (.node (.node (.node (.node .leaf 31 ⟨.func,1,8,[.nilf],false⟩ .leaf) 32 ⟨.func,1,8,[.nilf],false⟩ (.node .leaf 33 ⟨.func,1,8,[.nilf],false⟩ .leaf)) 34 ⟨.func,1,8,[.nilf],false⟩ (.node (.node .leaf 35 ⟨.func,1,8,[.nilf],false⟩ .leaf) 36 ⟨.slice 9,1,24,[.nils],false⟩ .leaf)) 37 ⟨.func,1,8,[.nilf],false⟩ (.node (.node (.node .leaf 38 ⟨.func,1,8,[.nilf],false⟩ .leaf) 39 ⟨.slice 53,1,24,[.nils],false⟩ (.node .leaf 40 ⟨.slice 3,1,24,[.nils],false⟩ .leaf)) 41 ⟨.struct [(0,39),(1,40)],2,48,[.nils,.nils],true⟩ (.node (.node .leaf 42 ⟨.struct [(0,39),(1,40)],2,48,[.nils,.nils],true⟩ .leaf) 44 ⟨.func,1,8,[.nilf],false⟩ .leaf))) 45 ⟨.ptr 50,1,8,[.nilp],false⟩ (.node (.node (.node (.node .leaf 47 ⟨.func,1,8,[.nilf],false⟩ .leaf) 48 ⟨.slice 54,1,24,[.nils],false⟩ (.node .leaf 49 ⟨.struct [(0,48),(1,40)],2,48,[.nils,.nils],true⟩ .leaf)) 50 ⟨.struct [(0,48),(1,40)],2,48,[.nils,.nils],true⟩ (.node (.node .leaf 51 ⟨.func,1,8,[.nilf],false⟩ .leaf) 52 ⟨.struct [(0,3),(1,3),(2,3),(3,40),(4,3)],5,56,[.int .i64 0,.int .i64 0,.int .i64 0,.nils,.int .i64 0],true⟩ .leaf)) 53 ⟨.struct [(0,3),(1,3),(2,3),(3,40),(4,3)],5,56,[.int .i64 0,.int .i64 0,.int .i64 0,.nils,.int .i64 0],true⟩ (.node (.node (.node .leaf 54 ⟨.struct [(0,3),(1,3),(2,3),(3,40),(4,3)],5,56,[.int .i64 0,.int .i64 0,.int .i64 0,.nils,.int .i64 0],true⟩ .leaf) 55 ⟨.func,1,8,[.nilf],false⟩ (.node .leaf 56 ⟨.func,1,8,[.nilf],false⟩ .leaf)) 57 ⟨.func,1,8,[.nilf],false⟩ (.node (.node .leaf 59 ⟨.func,1,8,[.nilf],false⟩ .leaf) 60 ⟨.struct [(0,3),(1,3),(2,3),(3,9),(4,40)],5,64,[.int .i64 0,.int .i64 0,.int .i64 0,.str [],.nils],true⟩ .leaf))))) 61 ⟨.struct [(0,3),(1,3),(2,3),(3,9),(4,40)],5,64,[.int .i64 0,.int .i64 0,.int .i64 0,.str [],.nils],true⟩ (.node (.node (.node (.node (.node (.node .leaf 62 ⟨.ptr 72,1,8,[.nilp],false⟩ .leaf) 63 ⟨.func,1,8,[.nilf],false⟩ (.node .leaf 64 ⟨.func,1,8,[.nilf],false⟩ .leaf)) 65 ⟨.func,1,8,[.nilf],false⟩ (.node (.node .leaf 66 ⟨.func,1,8,[.nilf],false⟩ .leaf) 67 ⟨.func,1,8,[.nilf],false⟩ .leaf)) 68 ⟨.func,1,8,[.nilf],false⟩ (.node (.node (.node .leaf 69 ⟨.map 9 3,1,8,[.nilm],false⟩ .leaf) 70 ⟨.map 3 69,1,8,[.nilm],false⟩ (.node .leaf 71 ⟨.struct [(0,24),(2,40),(3,69),(4,69),(5,70)],6,80,[.nils,.int .i64 0,.nils,.nilm,.nilm,.nilm],true⟩ .leaf)) 72 ⟨.struct [(0,24),(2,40),(3,69),(4,69),(5,70)],6,80,[.nils,.int .i64 0,.nils,.nilm,.nilm,.nilm],true⟩ (.node (.node .leaf 73 ⟨.func,1,8,[.nilf],false⟩ .leaf) 74 ⟨.func,1,8,[.nilf],false⟩ .leaf))) 75 ⟨.func,1,8,[.nilf],false⟩ (.node (.node (.node (.node .leaf 76 ⟨.func,1,8,[.nilf],false⟩ .leaf) 77 ⟨.func,1,8,[.nilf],false⟩ (.node .leaf 78 ⟨.ptr 82,1,8,[.nilp],false⟩ .leaf)) 79 ⟨.ptr 42,1,8,[.nilp],false⟩ (.node (.node .leaf 80 ⟨.map 3 3,1,8,[.nilm],false⟩ .leaf) 81 ⟨.struct [(0,24),(2,79),(3,80),(4,3)],5,56,[.nils,.int .i64 0,.nilp,.nilm,.int .i64 0],true⟩ .leaf)) 82 ⟨.struct [(0,24),(2,79),(3,80),(4,3)],5,56,[.nils,.int .i64 0,.nilp,.nilm,.int .i64 0],true⟩ (.node (.node (.node .leaf 83 ⟨.func,1,8,[.nilf],false⟩ .leaf) 84 ⟨.func,1,8,[.nilf],false⟩ (.node .leaf 85 ⟨.func,1,8,[.nilf],false⟩ .leaf)) 86 ⟨.func,1,8,[.nilf],false⟩ (.node (.node .leaf 87 ⟨.func,1,8,[.nilf],false⟩ .leaf) 88 ⟨.func,1,8,[.nilf],false⟩ .leaf)))) 89 ⟨.func,1,8,[.nilf],false⟩ (.node (.node (.node (.node (.node .leaf 90 ⟨.func,1,8,[.nilf],false⟩ .leaf) 91 ⟨.func,1,8,[.nilf],false⟩ (.node .leaf 92 ⟨.func,1,8,[.nilf],false⟩ .leaf)) 93 ⟨.func,1,8,[.nilf],false⟩ (.node (.node .leaf 94 ⟨.func,1,8,[.nilf],false⟩ .leaf) 95 ⟨.func,1,8,[.nilf],false⟩ .leaf)) 96 ⟨.slice 4,1,24,[.nils],false⟩ (.node (.node (.node .leaf 98 ⟨.func,1,8,[.nilf],false⟩ .leaf) 99 ⟨.func,1,8,[.nilf],false⟩ (.node .leaf 100 ⟨.func,1,8,[.nilf],false⟩ .leaf)) 101 ⟨.ptr 129,1,8,[.nilp],false⟩ (.node (.node .leaf 102 ⟨.func,1,8,[.nilf],false⟩ .leaf) 103 ⟨.func,1,8,[.nilf],false⟩ .leaf))) 105 ⟨.func,1,8,[.nilf],false⟩ (.node (.node (.node (.node .leaf 106 ⟨.func,1,8,[.nilf],false⟩ .leaf) 107 ⟨.func,1,8,[.nilf],false⟩ (.node .leaf 108 ⟨.func,1,8,[.nilf],false⟩ .leaf)) 109 ⟨.func,1,8,[.nilf],false⟩ (.node (.node .leaf 110 ⟨.func,1,8,[.nilf],false⟩ .leaf) 111 ⟨.func,1,8,[.nilf],false⟩ .leaf)) 112 ⟨.func,1,8,[.nilf],false⟩ (.node (.node (.node .leaf 113 ⟨.func,1,8,[.nilf],false⟩ .leaf) 114 ⟨.func,1,8,[.nilf],false⟩ (.node .leaf 115 ⟨.int .u64,1,8,[.int .u64 0],false⟩ .leaf)) 116 ⟨.func,1,8,[.nilf],false⟩ (.node (.node .leaf 117 ⟨.func,1,8,[.nilf],false⟩ .leaf) 118 ⟨.func,1,8,[.nilf],false⟩ .leaf)))))) 119 ⟨.func,1,8,[.nilf],false⟩ (.node (.node (.node (.node (.node (.node (.node .leaf 120 ⟨.func,1,8,[.nilf],false⟩ .leaf) 121 ⟨.func,1,8,[.nilf],false⟩ (.node .leaf 122 ⟨.slice 131,1,24,[.nils],false⟩ .leaf)) 124 ⟨.func,1,8,[.nilf],false⟩ (.node (.node .leaf 125 ⟨.struct [(0,3),(1,27)],2,16,[.int .i64 0,.int .i64 0],true⟩ .leaf) 126 ⟨.struct [(0,3),(1,27)],2,16,[.int .i64 0,.int .i64 0],true⟩ .leaf)) 128 ⟨.struct [(0,122),(1,22),(2,3),(3,3)],4,64,[.nils,.nils,.int .i64 0,.int .i64 0],true⟩ (.node (.node (.node .leaf 129 ⟨.struct [(0,122),(1,22),(2,3),(3,3)],4,64,[.nils,.nils,.int .i64 0,.int .i64 0],true⟩ .leaf) 130 ⟨.struct [(0,3),(1,3),(2,3),(3,9)],4,40,[.int .i64 0,.int .i64 0,.int .i64 0,.str []],true⟩ (.node .leaf 131 ⟨.struct [(0,3),(1,3),(2,3),(3,9)],4,40,[.int .i64 0,.int .i64 0,.int .i64 0,.str []],true⟩ .leaf)) 132 ⟨.func,1,8,[.nilf],false⟩ (.node (.node .leaf 133 ⟨.func,1,8,[.nilf],false⟩ .leaf) 135 ⟨.func,1,8,[.nilf],false⟩ .leaf))) 136 ⟨.func,1,8,[.nilf],false⟩ (.node (.node (.node (.node .leaf 137 ⟨.func,1,8,[.nilf],false⟩ .leaf) 138 ⟨.func,1,8,[.nilf],false⟩ (.node .leaf 139 ⟨.func,1,8,[.nilf],false⟩ .leaf)) 140 ⟨.func,1,8,[.nilf],false⟩ (.node (.node .leaf 141 ⟨.func,1,8,[.nilf],false⟩ .leaf) 142 ⟨.func,1,8,[.nilf],false⟩ .leaf)) 143 ⟨.func,1,8,[.nilf],false⟩ (.node (.node (.node .leaf 144 ⟨.func,1,8,[.nilf],false⟩ .leaf) 145 ⟨.func,1,8,[.nilf],false⟩ (.node .leaf 146 ⟨.func,1,8,[.nilf],false⟩ .leaf)) 147 ⟨.int .i64,1,8,[.int .i64 0],false⟩ (.node (.node .leaf 149 ⟨.func,1,8,[.nilf],false⟩ .leaf) 150 ⟨.func,1,8,[.nilf],false⟩ .leaf)))) 151 ⟨.func,1,8,[.nilf],false⟩ (.node (.node (.node (.node (.node .leaf 152 ⟨.func,1,8,[.nilf],false⟩ .leaf) 153 ⟨.func,1,8,[.nilf],false⟩ (.node .leaf 154 ⟨.int .u32,1,4,[.int .u32 0],false⟩ .leaf)) 155 ⟨.func,1,8,[.nilf],false⟩ (.node (.node .leaf 156 ⟨.int .u64,1,8,[.int .u64 0],false⟩ .leaf) 157 ⟨.func,1,8,[.nilf],false⟩ .leaf)) 158 ⟨.func,1,8,[.nilf],false⟩ (.node (.node (.node .leaf 159 ⟨.func,1,8,[.nilf],false⟩ .leaf) 160 ⟨.func,1,8,[.nilf],false⟩ (.node .leaf 161 ⟨.func,1,8,[.nilf],false⟩ .leaf)) 162 ⟨.func,1,8,[.nilf],false⟩ (.node (.node .leaf 163 ⟨.func,1,8,[.nilf],false⟩ .leaf) 165 ⟨.func,1,8,[.nilf],false⟩ .leaf))) 166 ⟨.func,1,8,[.nilf],false⟩ (.node (.node (.node (.node .leaf 167 ⟨.func,1,8,[.nilf],false⟩ .leaf) 168 ⟨.func,1,8,[.nilf],false⟩ (.node .leaf 169 ⟨.func,1,8,[.nilf],false⟩ .leaf)) 170 ⟨.func,1,8,[.nilf],false⟩ (.node (.node .leaf 172 ⟨.func,1,8,[.nilf],false⟩ .leaf) 173 ⟨.func,1,8,[.nilf],false⟩ .leaf)) 174 ⟨.func,1,8,[.nilf],false⟩ (.node (.node (.node .leaf 175 ⟨.func,1,8,[.nilf],false⟩ .leaf) 176 ⟨.int .u64,1,8,[.int .u64 0],false⟩ (.node .leaf 177 ⟨.func,1,8,[.nilf],false⟩ .leaf)) 178 ⟨.func,1,8,[.nilf],false⟩ (.node (.node .leaf 179 ⟨.func,1,8,[.nilf],false⟩ .leaf) 180 ⟨.ptr 3,1,8,[.nilp],false⟩ .leaf))))) 181 ⟨.func,1,8,[.nilf],false⟩ (.node (.node (.node (.node (.node (.node .leaf 182 ⟨.func,1,8,[.nilf],false⟩ .leaf) 183 ⟨.func,1,8,[.nilf],false⟩ (.node .leaf 184 ⟨.iface,1,16,[.nili],false⟩ .leaf)) 185 ⟨.iface,1,16,[.nili],false⟩ (.node (.node .leaf 187 ⟨.func,1,8,[.nilf],false⟩ .leaf) 188 ⟨.func,1,8,[.nilf],false⟩ .leaf)) 189 ⟨.func,1,8,[.nilf],false⟩ (.node (.node (.node .leaf 190 ⟨.func,1,8,[.nilf],false⟩ .leaf) 191 ⟨.slice 5,1,24,[.nils],false⟩ (.node .leaf 192 ⟨.func,1,8,[.nilf],false⟩ .leaf)) 193 ⟨.ptr 176,1,8,[.nilp],false⟩ (.node (.node .leaf 195 ⟨.func,1,8,[.nilf],false⟩ .leaf) 196 ⟨.func,1,8,[.nilf],false⟩ .leaf))) 197 ⟨.func,1,8,[.nilf],false⟩ (.node (.node (.node (.node .leaf 198 ⟨.func,1,8,[.nilf],false⟩ .leaf) 199 ⟨.int .i64,1,8,[.int .i64 0],false⟩ (.node .leaf 201 ⟨.func,1,8,[.nilf],false⟩ .leaf)) 202 ⟨.ptr 214,1,8,[.nilp],false⟩ (.node (.node .leaf 203 ⟨.func,1,8,[.nilf],false⟩ .leaf) 204 ⟨.func,1,8,[.nilf],false⟩ .leaf)) 205 ⟨.func,1,8,[.nilf],false⟩ (.node (.node (.node .leaf 206 ⟨.func,1,8,[.nilf],false⟩ .leaf) 207 ⟨.func,1,8,[.nilf],false⟩ (.node .leaf 209 ⟨.func,1,8,[.nilf],false⟩ .leaf)) 211 ⟨.func,1,8,[.nilf],false⟩ (.node (.node .leaf 212 ⟨.func,1,8,[.nilf],false⟩ .leaf) 213 ⟨.struct [(0,9),(1,9),(2,185)],3,48,[.str [],.str [],.nili],true⟩ .leaf)))) 214 ⟨.struct [(0,9),(1,9),(2,185)],3,48,[.str [],.str [],.nili],true⟩ (.node (.node (.node (.node (.node .leaf 215 ⟨.func,1,8,[.nilf],false⟩ .leaf) 216 ⟨.array 24 5,24,24,[.int .u8 0,.int .u8 0,.int .u8 0,.int .u8 0,.int .u8 0,.int .u8 0,.int .u8 0,.int .u8 0,.int .u8 0,.int .u8 0,.int .u8 0,.int .u8 0,.int .u8 0,.int .u8 0,.int .u8 0,.int .u8 0,.int .u8 0,.int .u8 0,.int .u8 0,.int .u8 0,.int .u8 0,.int .u8 0,.int .u8 0,.int .u8 0],true⟩ (.node .leaf 217 ⟨.func,1,8,[.nilf],false⟩ .leaf)) 219 ⟨.func,1,8,[.nilf],false⟩ (.node (.node .leaf 220 ⟨.func,1,8,[.nilf],false⟩ .leaf) 221 ⟨.ptr 5,1,8,[.nilp],false⟩ .leaf)) 222 ⟨.ptr 224,1,8,[.nilp],false⟩ (.node (.node (.node .leaf 223 ⟨.struct [(0,9)],1,16,[.str []],true⟩ .leaf) 224 ⟨.struct [(0,9)],1,16,[.str []],true⟩ (.node .leaf 225 ⟨.func,1,8,[.nilf],false⟩ .leaf)) 226 ⟨.array 20 156,20,160,[.int .u64 0,.int .u64 0,.int .u64 0,.int .u64 0,.int .u64 0,.int .u64 0,.int .u64 0,.int .u64 0,.int .u64 0,.int .u64 0,.int .u64 0,.int .u64 0,.int .u64 0,.int .u64 0,.int .u64 0,.int .u64 0,.int .u64 0,.int .u64 0,.int .u64 0,.int .u64 0],true⟩ (.node (.node .leaf 228 ⟨.array 32 5,32,32,[.int .u8 0,.int .u8 0,.int .u8 0,.int .u8 0,.int .u8 0,.int .u8 0,.int .u8 0,.int .u8 0,.int .u8 0,.int .u8 0,.int .u8 0,.int .u8 0,.int .u8 0,.int .u8 0,.int .u8 0,.int .u8 0,.int .u8 0,.int .u8 0,.int .u8 0,.int .u8 0,.int .u8 0,.int .u8 0,.int .u8 0,.int .u8 0,.int .u8 0,.int .u8 0,.int .u8 0,.int .u8 0,.int .u8 0,.int .u8 0,.int .u8 0,.int .u8 0],true⟩ .leaf) 229 ⟨.array 64 5,64,64,[.int .u8 0,.int .u8 0,.int .u8 0,.int .u8 0,.int .u8 0,.int .u8 0,.int .u8 0,.int .u8 0,.int .u8 0,.int .u8 0,.int .u8 0,.int .u8 0,.int .u8 0,.int .u8 0,.int .u8 0,.int .u8 0,.int .u8 0,.int .u8 0,.int .u8 0,.int .u8 0,.int .u8 0,.int .u8 0,.int .u8 0,.int .u8 0,.int .u8 0,.int .u8 0,.int .u8 0,.int .u8 0,.int .u8 0,.int .u8 0,.int .u8 0,.int .u8 0,.int .u8 0,.int .u8 0,.int .u8 0,.int .u8 0,.int .u8 0,.int .u8 0,.int .u8 0,.int .u8 0,.int .u8 0,.int .u8 0,.int .u8 0,.int .u8 0,.int .u8 0,.int .u8 0,.int .u8 0,.int .u8 0,.int .u8 0,.int .u8 0,.int .u8 0,.int .u8 0,.int .u8 0,.int .u8 0,.int .u8 0,.int .u8 0,.int .u8 0,.int .u8 0,.int .u8 0,.int .u8 0,.int .u8 0,.int .u8 0,.int .u8 0,.int .u8 0],true⟩ .leaf))) 230 ⟨.func,1,8,[.nilf],false⟩ (.node (.node (.node (.node .leaf 231 ⟨.struct [(0,17),(1,17),(2,17),(3,9)],4,40,[.nilp,.nilp,.nilp,.str []],true⟩ .leaf) 232 ⟨.struct [(0,17),(1,17),(2,17),(3,9)],4,40,[.nilp,.nilp,.nilp,.str []],true⟩ (.node .leaf 233 ⟨.array 0 16,0,0,[],true⟩ .leaf)) 234 ⟨.struct [(0,233)],0,0,[],true⟩ (.node (.node .leaf 235 ⟨.struct [(0,233)],0,0,[],true⟩ .leaf) 236 ⟨.int .u8,1,1,[.int .u8 0],false⟩ .leaf)) 237 ⟨.int .u8,1,1,[.int .u8 0],false⟩ (.node (.node (.node .leaf 238 ⟨.func,1,8,[.nilf],false⟩ .leaf) 239 ⟨.int .i32,1,4,[.int .i32 0],false⟩ (.node .leaf 240 ⟨.int .i32,1,4,[.int .i32 0],false⟩ .leaf)) 241 ⟨.struct [(0,12),(1,12),(2,154),(3,236),(4,5),(5,5),(6,237),(7,238),(8,221),(9,239),(10,240)],11,48,[.int .u64 0,.int .u64 0,.int .u32 0,.int .u8 0,.int .u8 0,.int .u8 0,.int .u8 0,.nilf,.nilp,.int .i32 0,.int .i32 0],true⟩ (.node (.node .leaf 242 ⟨.struct [(0,12),(1,12),(2,154),(3,236),(4,5),(5,5),(6,237),(7,238),(8,221),(9,239),(10,240)],11,48,[.int .u64 0,.int .u64 0,.int .u32 0,.int .u8 0,.int .u8 0,.int .u8 0,.int .u8 0,.nilf,.nilp,.int .i32 0,.int .i32 0],true⟩ .leaf) 243 ⟨.other,1,8,[.nilp],false⟩ .leaf)))))))
noncomputable def Tf:TT Func:=(.node (.node (.node (.node (.node (.node (.node (.node (.node .leaf 0 Tryz.f0 .leaf) 1 Tryz.f1 .leaf) 2 Tryz.f2 (.node .leaf 3 Tryz.f3 .leaf)) 4 Tryz.f4 (.node (.node (.node .leaf 5 Tryz.f5 .leaf) 6 Tryz.f6 .leaf) 7 Tryz.f7 (.node .leaf 8 Tryz.f8 .leaf))) 9 Tryz.f9 (.node (.node (.node (.node .leaf 10 Tryz.f10 .leaf) 11 Tryz.f11 .leaf) 12 Tryz.f12 (.node .leaf 13 Tryz.f13 .leaf)) 14 Tryz.f14 (.node (.node .leaf 15 Tryz.f15 .leaf) 16 Tryz.f16 (.node .leaf 17 Tryz.f17 .leaf)))) 18 Tryz.f18 (.node (.node (.node (.node (.node .leaf 19 Tryz.f19 .leaf) 20 Tryz.f20 .leaf) 21 Tryz.f21 (.node .leaf 22 Tryz.f22 .leaf)) 23 Tryz.f23 (.node (.node (.node .leaf 24 Tryz.f24 .leaf) 25 Tryz.f25 .leaf) 26 Tryz.f26 (.node .leaf 27 Tryz.f27 .leaf))) 28 Tryz.f28 (.node (.node (.node (.node .leaf 29 Tryz.f29 .leaf) 30 Tryz.f30 .leaf) 31 Tryz.f31 (.node .leaf 32 Tryz.f32 .leaf)) 33 Tryz.f33 (.node (.node .leaf 34 Tryz.f34 .leaf) 35 Tryz.f35 (.node .leaf 36 Tryz.f36 .leaf))))) 37 Tryz.f37 (.node (.node (.node (.node (.node (.node .leaf 38 Tryz.f38 .leaf) 39 Tryz.f39 .leaf) 40 Tryz.f40 (.node .leaf 41 Tryz.f41 .leaf)) 42 Tryz.f42 (.node (.node (.node .leaf 43 Tryz.f43 .leaf) 44 Tryz.f44 .leaf) 45 Tryz.f45 (.node .leaf 46 Tryz.f46 .leaf))) 47 Tryz.f47 (.node (.node (.node (.node .leaf 48 Tryz.f48 .leaf) 49 Tryz.f49 .leaf) 50 Tryz.f50 (.node .leaf 51 Tryz.f51 .leaf)) 52 Tryz.f52 (.node (.node .leaf 53 Tryz.f53 .leaf) 54 Tryz.f54 (.node .leaf 55 Tryz.f55 .leaf)))) 56 Tryz.f56 (.node (.node (.node (.node (.node .leaf 57 Tryz.f57 .leaf) 58 Tryz.f58 .leaf) 59 Tryz.f59 (.node .leaf 60 Tryz.f60 .leaf)) 61 Tryz.f61 (.node (.node .leaf 62 Tryz.f62 .leaf) 63 Tryz.f63 (.node .leaf 64 Tryz.f64 .leaf))) 65 Tryz.f65 (.node (.node (.node (.node .leaf 66 Tryz.f66 .leaf) 67 Tryz.f67 .leaf) 68 Tryz.f68 (.node .leaf 69 Tryz.f69 .leaf)) 70 Tryz.f70 (.node (.node .leaf 71 Tryz.f71 .leaf) 72 Tryz.f72 (.node .leaf 73 Tryz.f73 .leaf)))))) 74 Tryz.f74 (.node (.node (.node (.node (.node (.node (.node .leaf 75 Tryz.f75 .leaf) 76 Tryz.f76 .leaf) 77 Tryz.f77 (.node .leaf 78 Tryz.f78 .leaf)) 79 Tryz.f79 (.node (.node (.node .leaf 80 Tryz.f80 .leaf) 81 Tryz.f81 .leaf) 82 Tryz.f82 (.node .leaf 83 Tryz.f83 .leaf))) 84 Tryz.f84 (.node (.node (.node (.node .leaf 85 Tryz.f85 .leaf) 86 Tryz.f86 .leaf) 87 Tryz.f87 (.node .leaf 88 Tryz.f88 .leaf)) 89 Tryz.f89 (.node (.node .leaf 90 Tryz.f90 .leaf) 91 Tryz.f91 (.node .leaf 92 Tryz.f92 .leaf)))) 93 Tryz.f93 (.node (.node (.node (.node (.node .leaf 94 Tryz.f94 .leaf) 95 Tryz.f95 .leaf) 96 Tryz.f96 (.node .leaf 97 Tryz.f97 .leaf)) 98 Tryz.f98 (.node (.node (.node .leaf 99 Tryz.f99 .leaf) 100 Tryz.f100 .leaf) 101 Tryz.f101 (.node .leaf 102 Tryz.f102 .leaf))) 103 Tryz.f103 (.node (.node (.node (.node .leaf 104 Tryz.f104 .leaf) 105 Tryz.f105 .leaf) 106 Tryz.f106 (.node .leaf 107 Tryz.f107 .leaf)) 108 Tryz.f108 (.node (.node .leaf 109 Tryz.f109 .leaf) 110 Tryz.f110 (.node .leaf 111 Tryz.f111 .leaf))))) 112 Tryz.f112 (.node (.node (.node (.node (.node (.node .leaf 113 Tryz.f113 .leaf) 114 Tryz.f114 .leaf) 115 Tryz.f115 (.node .leaf 116 Tryz.f116 .leaf)) 117 Tryz.f117 (.node (.node (.node .leaf 118 Tryz.f118 .leaf) 119 Tryz.f119 .leaf) 120 Tryz.f120 (.node .leaf 121 Tryz.f121 .leaf))) 122 Tryz.f122 (.node (.node (.node (.node .leaf 123 Tryz.f123 .leaf) 124 Tryz.f124 .leaf) 125 Tryz.f125 (.node .leaf 126 Tryz.f126 .leaf)) 127 Tryz.f127 (.node (.node .leaf 128 Tryz.f128 .leaf) 129 Tryz.f129 (.node .leaf 130 Tryz.f130 .leaf)))) 131 Tryz.f131 (.node (.node (.node (.node (.node .leaf 132 Tryz.f132 .leaf) 133 Tryz.f133 .leaf) 134 Tryz.f134 (.node .leaf 135 Tryz.f135 .leaf)) 136 Tryz.f136 (.node (.node .leaf 137 Tryz.f137 .leaf) 138 Tryz.f138 (.node .leaf 139 Tryz.f139 .leaf))) 140 Tryz.f140 (.node (.node (.node (.node .leaf 141 Tryz.f141 .leaf) 142 Tryz.f142 .leaf) 143 Tryz.f143 (.node .leaf 144 Tryz.f144 .leaf)) 145 Tryz.f145 (.node (.node .leaf 146 Tryz.f146 .leaf) 147 Tryz.f147 (.node .leaf 148 Tryz.f148 .leaf))))))) 149 Tryz.f149 (.node (.node (.node (.node (.node (.node (.node (.node .leaf 150 Tryz.f150 .leaf) 151 Tryz.f151 .leaf) 152 Tryz.f152 (.node .leaf 153 Tryz.f153 .leaf)) 154 Tryz.f154 (.node (.node (.node .leaf 155 Tryz.f155 .leaf) 156 Tryz.f156 .leaf) 157 Tryz.f157 (.node .leaf 158 Tryz.f158 .leaf))) 159 Tryz.f159 (.node (.node (.node (.node .leaf 160 Tryz.f160 .leaf) 161 Tryz.f161 .leaf) 162 Tryz.f162 (.node .leaf 163 Tryz.f163 .leaf)) 164 Tryz.f164 (.node (.node .leaf 165 Tryz.f165 .leaf) 166 Tryz.f166 (.node .leaf 167 Tryz.f167 .leaf)))) 168 Tryz.f168 (.node (.node (.node (.node (.node .leaf 169 Tryz.f169 .leaf) 170 Tryz.f170 .leaf) 171 Tryz.f171 (.node .leaf 172 Tryz.f172 .leaf)) 173 Tryz.f173 (.node (.node (.node .leaf 174 Tryz.f174 .leaf) 175 Tryz.f175 .leaf) 176 Tryz.f176 (.node .leaf 177 Tryz.f177 .leaf))) 178 Tryz.f178 (.node (.node (.node (.node .leaf 179 Tryz.f179 .leaf) 180 Tryz.f180 .leaf) 181 Tryz.f181 (.node .leaf 182 Tryz.f182 .leaf)) 183 Tryz.f183 (.node (.node .leaf 184 Tryz.f184 .leaf) 185 Tryz.f185 (.node .leaf 186 Tryz.f186 .leaf))))) 187 Tryz.f187 (.node (.node (.node (.node (.node (.node .leaf 188 Tryz.f188 .leaf) 189 Tryz.f189 .leaf) 190 Tryz.f190 (.node .leaf 191 Tryz.f191 .leaf)) 192 Tryz.f192 (.node (.node (.node .leaf 193 Tryz.f193 .leaf) 194 Tryz.f194 .leaf) 195 Tryz.f195 (.node .leaf 196 Tryz.f196 .leaf))) 197 Tryz.f197 (.node (.node (.node (.node .leaf 198 Tryz.f198 .leaf) 199 Tryz.f199 .leaf) 200 Tryz.f200 (.node .leaf 201 Tryz.f201 .leaf)) 202 Tryz.f202 (.node (.node .leaf 203 Tryz.f203 .leaf) 204 Tryz.f204 (.node .leaf 205 Tryz.f205 .leaf)))) 206 Tryz.f206 (.node (.node (.node (.node (.node .leaf 207 Tryz.f207 .leaf) 208 Tryz.f208 .leaf) 209 Tryz.f209 (.node .leaf 210 Tryz.f210 .leaf)) 211 Tryz.f211 (.node (.node .leaf 212 Tryz.f212 .leaf) 213 Tryz.f213 (.node .leaf 214 Tryz.f214 .leaf))) 215 Tryz.f215 (.node (.node (.node (.node .leaf 216 Tryz.f216 .leaf) 217 Tryz.f217 .leaf) 218 Tryz.f218 (.node .leaf 219 Tryz.f219 .leaf)) 220 Tryz.f220 (.node (.node .leaf 221 Tryz.f221 .leaf) 222 Tryz.f222 (.node .leaf 223 Tryz.f223 .leaf)))))) 224 Tryz.f224 (.node (.node (.node (.node (.node (.node (.node .leaf 225 Tryz.f225 .leaf) 226 Tryz.f226 .leaf) 227 Tryz.f227 (.node .leaf 228 Tryz.f228 .leaf)) 229 Tryz.f229 (.node (.node (.node .leaf 230 Tryz.f230 .leaf) 231 Tryz.f231 .leaf) 232 Tryz.f232 (.node .leaf 233 Tryz.f233 .leaf))) 234 Tryz.f234 (.node (.node (.node (.node .leaf 235 Tryz.f235 .leaf) 236 Tryz.f236 .leaf) 237 Tryz.f237 (.node .leaf 238 Tryz.f238 .leaf)) 239 Tryz.f239 (.node (.node .leaf 240 Tryz.f240 .leaf) 241 Tryz.f241 (.node .leaf 242 Tryz.f242 .leaf)))) 243 Tryz.f243 (.node (.node (.node (.node (.node .leaf 244 Tryz.f244 .leaf) 245 Tryz.f245 .leaf) 246 Tryz.f246 (.node .leaf 247 Tryz.f247 .leaf)) 248 Tryz.f248 (.node (.node (.node .leaf 249 Tryz.f249 .leaf) 250 Tryz.f250 .leaf) 251 Tryz.f251 (.node .leaf 252 Tryz.f252 .leaf))) 253 Tryz.f253 (.node (.node (.node (.node .leaf 254 Tryz.f254 .leaf) 255 Tryz.f255 .leaf) 256 Tryz.f256 (.node .leaf 257 Tryz.f257 .leaf)) 258 Tryz.f258 (.node (.node .leaf 259 Tryz.f259 .leaf) 260 Tryz.f260 (.node .leaf 261 Tryz.f261 .leaf))))) 262 Tryz.f262 (.node (.node (.node (.node (.node (.node .leaf 263 Tryz.f263 .leaf) 264 Tryz.f264 .leaf) 265 Tryz.f265 (.node .leaf 266 Tryz.f266 .leaf)) 267 Tryz.f267 (.node (.node (.node .leaf 268 Tryz.f268 .leaf) 269 Tryz.f269 .leaf) 270 Tryz.f270 (.node .leaf 271 Tryz.f271 .leaf))) 272 Tryz.f272 (.node (.node (.node (.node .leaf 273 Tryz.f273 .leaf) 274 Tryz.f274 .leaf) 275 Tryz.f275 (.node .leaf 276 Tryz.f276 .leaf)) 277 Tryz.f277 (.node (.node .leaf 278 Tryz.f278 .leaf) 279 Tryz.f279 (.node .leaf 280 Tryz.f280 .leaf)))) 281 Tryz.f281 (.node (.node (.node (.node (.node .leaf 282 Tryz.f282 .leaf) 283 Tryz.f283 .leaf) 284 Tryz.f284 (.node .leaf 285 Tryz.f285 .leaf)) 286 Tryz.f286 (.node (.node .leaf 287 Tryz.f287 .leaf) 288 Tryz.f288 (.node .leaf 289 Tryz.f289 .leaf))) 290 Tryz.f290 (.node (.node (.node (.node .leaf 291 Tryz.f291 .leaf) 292 Tryz.f292 .leaf) 293 Tryz.f293 (.node .leaf 294 Tryz.f294 .leaf)) 295 Tryz.f295 (.node (.node .leaf 296 Tryz.f296 .leaf) 297 Tryz.f297 (.node .leaf 298 Tryz.f298 .leaf))))))))
noncomputable def T0:Tab:=⟨Tt,Tf⟩
theorem t_ok:Tt.all (tiB Tryz.prog)=true:=by kernel_rfl
theorem n_ok : Tf.all (fun _ fn => !(fn.name == "runtime.NumGoroutine")) = true := by kernel_rfl
theorem f_ok:FAll Tryz.prog Tf:=⟨⟨⟨⟨⟨⟨⟨⟨⟨trivial,Tryz.func0,trivial⟩,Tryz.func1,trivial⟩,Tryz.func2,⟨trivial,Tryz.func3,trivial⟩⟩,Tryz.func4,⟨⟨⟨trivial,Tryz.func5,trivial⟩,Tryz.func6,trivial⟩,Tryz.func7,⟨trivial,Tryz.func8,trivial⟩⟩⟩,Tryz.func9,⟨⟨⟨⟨trivial,Tryz.func10,trivial⟩,Tryz.func11,trivial⟩,Tryz.func12,⟨trivial,Tryz.func13,trivial⟩⟩,Tryz.func14,⟨⟨trivial,Tryz.func15,trivial⟩,Tryz.func16,⟨trivial,Tryz.func17,trivial⟩⟩⟩⟩,Tryz.func18,⟨⟨⟨⟨⟨trivial,Tryz.func19,trivial⟩,Tryz.func20,trivial⟩,Tryz.func21,⟨trivial,Tryz.func22,trivial⟩⟩,Tryz.func23,⟨⟨⟨trivial,Tryz.func24,trivial⟩,Tryz.func25,trivial⟩,Tryz.func26,⟨trivial,Tryz.func27,trivial⟩⟩⟩,Tryz.func28,⟨⟨⟨⟨trivial,Tryz.func29,trivial⟩,Tryz.func30,trivial⟩,Tryz.func31,⟨trivial,Tryz.func32,trivial⟩⟩,Tryz.func33,⟨⟨trivial,Tryz.func34,trivial⟩,Tryz.func35,⟨trivial,Tryz.func36,trivial⟩⟩⟩⟩⟩,Tryz.func37,⟨⟨⟨⟨⟨⟨trivial,Tryz.func38,trivial⟩,Tryz.func39,trivial⟩,Tryz.func40,⟨trivial,Tryz.func41,trivial⟩⟩,Tryz.func42,⟨⟨⟨trivial,Tryz.func43,trivial⟩,Tryz.func44,trivial⟩,Tryz.func45,⟨trivial,Tryz.func46,trivial⟩⟩⟩,Tryz.func47,⟨⟨⟨⟨trivial,Tryz.func48,trivial⟩,Tryz.func49,trivial⟩,Tryz.func50,⟨trivial,Tryz.func51,trivial⟩⟩,Tryz.func52,⟨⟨trivial,Tryz.func53,trivial⟩,Tryz.func54,⟨trivial,Tryz.func55,trivial⟩⟩⟩⟩,Tryz.func56,⟨⟨⟨⟨⟨trivial,Tryz.func57,trivial⟩,Tryz.func58,trivial⟩,Tryz.func59,⟨trivial,Tryz.func60,trivial⟩⟩,Tryz.func61,⟨⟨trivial,Tryz.func62,trivial⟩,Tryz.func63,⟨trivial,Tryz.func64,trivial⟩⟩⟩,Tryz.func65,⟨⟨⟨⟨trivial,Tryz.func66,trivial⟩,Tryz.func67,trivial⟩,Tryz.func68,⟨trivial,Tryz.func69,trivial⟩⟩,Tryz.func70,⟨⟨trivial,Tryz.func71,trivial⟩,Tryz.func72,⟨trivial,Tryz.func73,trivial⟩⟩⟩⟩⟩⟩,Tryz.func74,⟨⟨⟨⟨⟨⟨⟨trivial,Tryz.func75,trivial⟩,Tryz.func76,trivial⟩,Tryz.func77,⟨trivial,Tryz.func78,trivial⟩⟩,Tryz.func79,⟨⟨⟨trivial,Tryz.func80,trivial⟩,Tryz.func81,trivial⟩,Tryz.func82,⟨trivial,Tryz.func83,trivial⟩⟩⟩,Tryz.func84,⟨⟨⟨⟨trivial,Tryz.func85,trivial⟩,Tryz.func86,trivial⟩,Tryz.func87,⟨trivial,Tryz.func88,trivial⟩⟩,Tryz.func89,⟨⟨trivial,Tryz.func90,trivial⟩,Tryz.func91,⟨trivial,Tryz.func92,trivial⟩⟩⟩⟩,Tryz.func93,⟨⟨⟨⟨⟨trivial,Tryz.func94,trivial⟩,Tryz.func95,trivial⟩,Tryz.func96,⟨trivial,Tryz.func97,trivial⟩⟩,Tryz.func98,⟨⟨⟨trivial,Tryz.func99,trivial⟩,Tryz.func100,trivial⟩,Tryz.func101,⟨trivial,Tryz.func102,trivial⟩⟩⟩,Tryz.func103,⟨⟨⟨⟨trivial,Tryz.func104,trivial⟩,Tryz.func105,trivial⟩,Tryz.func106,⟨trivial,Tryz.func107,trivial⟩⟩,Tryz.func108,⟨⟨trivial,Tryz.func109,trivial⟩,Tryz.func110,⟨trivial,Tryz.func111,trivial⟩⟩⟩⟩⟩,Tryz.func112,⟨⟨⟨⟨⟨⟨trivial,Tryz.func113,trivial⟩,Tryz.func114,trivial⟩,Tryz.func115,⟨trivial,Tryz.func116,trivial⟩⟩,Tryz.func117,⟨⟨⟨trivial,Tryz.func118,trivial⟩,Tryz.func119,trivial⟩,Tryz.func120,⟨trivial,Tryz.func121,trivial⟩⟩⟩,Tryz.func122,⟨⟨⟨⟨trivial,Tryz.func123,trivial⟩,Tryz.func124,trivial⟩,Tryz.func125,⟨trivial,Tryz.func126,trivial⟩⟩,Tryz.func127,⟨⟨trivial,Tryz.func128,trivial⟩,Tryz.func129,⟨trivial,Tryz.func130,trivial⟩⟩⟩⟩,Tryz.func131,⟨⟨⟨⟨⟨trivial,Tryz.func132,trivial⟩,Tryz.func133,trivial⟩,Tryz.func134,⟨trivial,Tryz.func135,trivial⟩⟩,Tryz.func136,⟨⟨trivial,Tryz.func137,trivial⟩,Tryz.func138,⟨trivial,Tryz.func139,trivial⟩⟩⟩,Tryz.func140,⟨⟨⟨⟨trivial,Tryz.func141,trivial⟩,Tryz.func142,trivial⟩,Tryz.func143,⟨trivial,Tryz.func144,trivial⟩⟩,Tryz.func145,⟨⟨trivial,Tryz.func146,trivial⟩,Tryz.func147,⟨trivial,Tryz.func148,trivial⟩⟩⟩⟩⟩⟩⟩,Tryz.func149,⟨⟨⟨⟨⟨⟨⟨⟨trivial,Tryz.func150,trivial⟩,Tryz.func151,trivial⟩,Tryz.func152,⟨trivial,Tryz.func153,trivial⟩⟩,Tryz.func154,⟨⟨⟨trivial,Tryz.func155,trivial⟩,Tryz.func156,trivial⟩,Tryz.func157,⟨trivial,Tryz.func158,trivial⟩⟩⟩,Tryz.func159,⟨⟨⟨⟨trivial,Tryz.func160,trivial⟩,Tryz.func161,trivial⟩,Tryz.func162,⟨trivial,Tryz.func163,trivial⟩⟩,Tryz.func164,⟨⟨trivial,Tryz.func165,trivial⟩,Tryz.func166,⟨trivial,Tryz.func167,trivial⟩⟩⟩⟩,Tryz.func168,⟨⟨⟨⟨⟨trivial,Tryz.func169,trivial⟩,Tryz.func170,trivial⟩,Tryz.func171,⟨trivial,Tryz.func172,trivial⟩⟩,Tryz.func173,⟨⟨⟨trivial,Tryz.func174,trivial⟩,Tryz.func175,trivial⟩,Tryz.func176,⟨trivial,Tryz.func177,trivial⟩⟩⟩,Tryz.func178,⟨⟨⟨⟨trivial,Tryz.func179,trivial⟩,Tryz.func180,trivial⟩,Tryz.func181,⟨trivial,Tryz.func182,trivial⟩⟩,Tryz.func183,⟨⟨trivial,Tryz.func184,trivial⟩,Tryz.func185,⟨trivial,Tryz.func186,trivial⟩⟩⟩⟩⟩,Tryz.func187,⟨⟨⟨⟨⟨⟨trivial,Tryz.func188,trivial⟩,Tryz.func189,trivial⟩,Tryz.func190,⟨trivial,Tryz.func191,trivial⟩⟩,Tryz.func192,⟨⟨⟨trivial,Tryz.func193,trivial⟩,Tryz.func194,trivial⟩,Tryz.func195,⟨trivial,Tryz.func196,trivial⟩⟩⟩,Tryz.func197,⟨⟨⟨⟨trivial,Tryz.func198,trivial⟩,Tryz.func199,trivial⟩,Tryz.func200,⟨trivial,Tryz.func201,trivial⟩⟩,Tryz.func202,⟨⟨trivial,Tryz.func203,trivial⟩,Tryz.func204,⟨trivial,Tryz.func205,trivial⟩⟩⟩⟩,Tryz.func206,⟨⟨⟨⟨⟨trivial,Tryz.func207,trivial⟩,Tryz.func208,trivial⟩,Tryz.func209,⟨trivial,Tryz.func210,trivial⟩⟩,Tryz.func211,⟨⟨trivial,Tryz.func212,trivial⟩,Tryz.func213,⟨trivial,Tryz.func214,trivial⟩⟩⟩,Tryz.func215,⟨⟨⟨⟨trivial,Tryz.func216,trivial⟩,Tryz.func217,trivial⟩,Tryz.func218,⟨trivial,Tryz.func219,trivial⟩⟩,Tryz.func220,⟨⟨trivial,Tryz.func221,trivial⟩,Tryz.func222,⟨trivial,Tryz.func223,trivial⟩⟩⟩⟩⟩⟩,Tryz.func224,⟨⟨⟨⟨⟨⟨⟨trivial,Tryz.func225,trivial⟩,Tryz.func226,trivial⟩,Tryz.func227,⟨trivial,Tryz.func228,trivial⟩⟩,Tryz.func229,⟨⟨⟨trivial,Tryz.func230,trivial⟩,Tryz.func231,trivial⟩,Tryz.func232,⟨trivial,Tryz.func233,trivial⟩⟩⟩,Tryz.func234,⟨⟨⟨⟨trivial,Tryz.func235,trivial⟩,Tryz.func236,trivial⟩,Tryz.func237,⟨trivial,Tryz.func238,trivial⟩⟩,Tryz.func239,⟨⟨trivial,Tryz.func240,trivial⟩,Tryz.func241,⟨trivial,Tryz.func242,trivial⟩⟩⟩⟩,Tryz.func243,⟨⟨⟨⟨⟨trivial,Tryz.func244,trivial⟩,Tryz.func245,trivial⟩,Tryz.func246,⟨trivial,Tryz.func247,trivial⟩⟩,Tryz.func248,⟨⟨⟨trivial,Tryz.func249,trivial⟩,Tryz.func250,trivial⟩,Tryz.func251,⟨trivial,Tryz.func252,trivial⟩⟩⟩,Tryz.func253,⟨⟨⟨⟨trivial,Tryz.func254,trivial⟩,Tryz.func255,trivial⟩,Tryz.func256,⟨trivial,Tryz.func257,trivial⟩⟩,Tryz.func258,⟨⟨trivial,Tryz.func259,trivial⟩,Tryz.func260,⟨trivial,Tryz.func261,trivial⟩⟩⟩⟩⟩,Tryz.func262,⟨⟨⟨⟨⟨⟨trivial,Tryz.func263,trivial⟩,Tryz.func264,trivial⟩,Tryz.func265,⟨trivial,Tryz.func266,trivial⟩⟩,Tryz.func267,⟨⟨⟨trivial,Tryz.func268,trivial⟩,Tryz.func269,trivial⟩,Tryz.func270,⟨trivial,Tryz.func271,trivial⟩⟩⟩,Tryz.func272,⟨⟨⟨⟨trivial,Tryz.func273,trivial⟩,Tryz.func274,trivial⟩,Tryz.func275,⟨trivial,Tryz.func276,trivial⟩⟩,Tryz.func277,⟨⟨trivial,Tryz.func278,trivial⟩,Tryz.func279,⟨trivial,Tryz.func280,trivial⟩⟩⟩⟩,Tryz.func281,⟨⟨⟨⟨⟨trivial,Tryz.func282,trivial⟩,Tryz.func283,trivial⟩,Tryz.func284,⟨trivial,Tryz.func285,trivial⟩⟩,Tryz.func286,⟨⟨trivial,Tryz.func287,trivial⟩,Tryz.func288,⟨trivial,Tryz.func289,trivial⟩⟩⟩,Tryz.func290,⟨⟨⟨⟨trivial,Tryz.func291,trivial⟩,Tryz.func292,trivial⟩,Tryz.func293,⟨trivial,Tryz.func294,trivial⟩⟩,Tryz.func295,⟨⟨trivial,Tryz.func296,trivial⟩,Tryz.func297,⟨trivial,Tryz.func298,trivial⟩⟩⟩⟩⟩⟩⟩⟩
theorem tabOk:TabOk Tryz.prog T0:=TabOk.of t_ok f_ok n_ok
end Go.Proofs.YtojjkleplnijaaaGreatDoor
namespace Go.AE
section
variable {P:Program} {T:Tab}
theorem V.agree {w:World} {m m':Mp} {n:Nat} (hI:∀ b,m.I b→m'.I b) (hρ:∀ r,r<n→m'.ρ r=m.ρ r) (hL:∀ r,r<n→m'.L r=m.L r)
  {a:AV} {u:Value} (h:V w m a u) (hc:a.cl n=true):V w m' a u:=by
 induction h with
 | p v u h=>exact .p v u (h.mono hI (fun _ _=>rfl))
 | ptr r ver i j off sz cap h hi =>
  have hr:r<n:=by simpa [AV.cl] using hc
  rw [← hρ r hr]
  exact .ptr (m:=m') r ver i j off sz cap (by rw [hL r hr,h]) hi
 | ptrOld r ver i j off b o h =>
  have hr:r<n:=by simpa [AV.cl] using hc
  exact .ptrOld (m:=m') r ver i j off b o (by rw [hL r hr];exact h)
 | slr r ver off k N sz cap h hn =>
  have hr:r<n:=by simpa [AV.cl] using hc
  rw [← hρ r hr]
  exact .slr (m:=m') r ver off k N sz cap (by rw [hL r hr,h]) hn
 | slrNil r ver h =>
  have hr:r<n:=by simpa [AV.cl] using hc
  exact .slrNil (m:=m') r ver (by rw [hL r hr,h])
 | slrOld r ver off k ad c h =>
  have hr:r<n:=by simpa [AV.cl] using hc
  exact .slrOld (m:=m') r ver off k ad c (by rw [hL r hr];exact h)
 | rop cs off b o u hb h1 h2=>exact .rop (m:=m') cs off b o u (hI _ hb) h1 (fun j hj=>(h2 j hj).mono hI (fun _ _=>rfl))
 | fn f first cap A B hA hB h1 h2 ih1 ih2 =>
  simp only [AV.cl,Bool.and_eq_true] at hc
  exact .fn f first cap A B hA hB (fun j hj hj'=>ih1 j hj hj' (AV.cls_get hc.1 j hj)) (fun j hj hj'=>ih2 j hj hj' (AV.cls_get hc.2 j hj))
 | iface t v u h ih=>exact .iface t v u (ih hc)
 | agg cs A hA h ih=>exact .agg cs A hA (fun j hj hj'=>ih j hj hj' (AV.cls_get hc j hj))
 | tup cs A hA h ih=>exact .tup cs A hA (fun j hj hj'=>ih j hj hj' (AV.cls_get hc j hj))
 | yld r sz cap h =>
  have hr:r<n:=by simpa [AV.cl] using hc
  rw [← hρ r hr]
  exact .yld (m:=m') r sz cap (by rw [hL r hr,h])
 | yldOld r b h =>
  have hr:r<n:=by simpa [AV.cl] using hc
  exact .yldOld (m:=m') r b (by rw [hL r hr];exact h)
 | mref r sz cap h =>
  have hr:r<n:=by simpa [AV.cl] using hc
  rw [← hρ r hr]
  exact .mref (m:=m') r sz cap (by rw [hL r hr,h])
 | mrefOld r b h =>
  have hr:r<n:=by simpa [AV.cl] using hc
  exact .mrefOld (m:=m') r b (by rw [hL r hr];exact h)
 | junk u=>exact .junk u
theorem BlkOk.agree {w:World} {m m':Mp} {n:Nat} (hI:∀ b,m.I b→m'.I b) (hρ:∀ r,r<n→m'.ρ r=m.ρ r) (hL:∀ r,r<n→m'.L r=m.L r)
  {l:Inf} {g:Nat} {b:ABlk} (h:BlkOk w m l g b) (hc:b.cl n):BlkOk w m' l g b:=by
 cases b with
 | absent=>exact h
 | dead=>exact h
 | box ty cs =>
  obtain⟨hl,c,h1,h2,h3⟩:=h
  exact⟨hl,c,h1,h2,fun j hj=>let ⟨u,a,b⟩:=h3 j hj;⟨u,a,b.agree hI hρ hL (AV.cls_get hc j hj)⟩⟩
 | arr ty sz ver k f =>
  rcases h with h|⟨cap,c,hl,h0,h00,h1,h2,h3⟩
  ·exact .inl h
  exact .inr ⟨cap,c,hl,h0,h00,h1,h2,fun i hi=>⟨(h3 i hi).1,fun j hj=>let ⟨u,a,b⟩:=(h3 i hi).2 j hj;⟨u,a,b.agree hI hρ hL (AV.cls_get (hc i hi) j hj)⟩⟩⟩
 | lp s env N ps asg bd =>
  obtain⟨hl,p,fn,tmps,D,h1,h2,h3,h4⟩:=h
  exact⟨hl,p,fn,tmps,D,h1,h2,h3,fun d=>(h4 d).agree hI hρ hL (clE_look hc d)⟩
 | mp kt q st =>
  obtain⟨hl,es,clock,r,h1,h2⟩:=h
  exact⟨hl,es,clock,r,h1,h2.mono fun κ a u hg hv=>hv.agree hI hρ hL (hc κ a hg)⟩
theorem hp_append (K X:List ABlk) (r:Nat):hp (K++X) r=if r<K.length then hp K r else hp X (r - K.length):=by
 induction K generalizing r with
 | nil=>simp
 | cons b K ih =>
  cases r with
  | zero=>simp [hp,nth]
  | succ r =>
   have:=ih r
   simp only [hp,nth,List.cons_append,List.length_cons] at this ⊢
   rw [this]
   by_cases h:r<K.length
   ·rw [if_pos h,if_pos (by omega)]
   ·rw [if_neg h,if_neg (by omega)]
    congr 2;omega
theorem hp_ge (K:List ABlk) (r:Nat) (h:K.length≤r):hp K r=.absent:=by
 have:=hp_append K [] r
 rw [List.append_nil,if_neg (by omega)] at this
 rw [this];rfl
theorem hp_takeN (K:List ABlk) (n r:Nat):hp (takeN K n) r=if r<n then hp K r else .absent:=by
 induction K generalizing n r with
 | nil=>cases n<;>simp [takeN,hp,nth]
 | cons b K ih =>
  cases n with
  | zero=>simp [takeN,hp,nth]
  | succ n =>
   cases r with
   | zero=>simp [takeN,hp,nth]
   | succ r =>
    have:=ih n r
    simp only [hp,takeN,nth] at this ⊢
    rw [this]
    by_cases h:r<n
    ·rw [if_pos h,if_pos (by omega)]
    ·rw [if_neg h,if_neg (by omega)]
theorem takeN_zero {α:Type} (l:List α):takeN l 0=[]:=by cases l<;>rfl
theorem len_length {α:Type} (l:List α):len l=l.length:=by
 induction l with
 | nil=>rfl
 | cons a l ih=>simp [len,ih]
theorem takeN_length {α:Type} (l:List α) (n:Nat) (h:n≤l.length):(takeN l n).length=n:=by
 induction l generalizing n with
 | nil=>simp at h;subst h;rfl
 | cons a l ih =>
  cases n with
  | zero=>rfl
  | succ n=>simp only [takeN,List.length_cons];rw [ih n (by simpa using h)]
theorem St.ge {w:World} {m:Mp} {K:List ABlk} (h:St w m (hp K)) (r:Nat) (hr:K.length≤r):m.L r=.absent:=h.absent (hp_ge K r hr)
theorem ACalls.mono {f:FuncId} {args:List AV} {K:List ABlk} {k k':AO→List ABlk→Prop} (h:ACalls P f args K k) (hk:∀ ao K',k ao K'→k' ao K'):ACalls P f args K k':=by
 refine⟨h.1,fun w m Args hS hV=>(h.2 w m Args hS hV).mono fun e w' he=>?_⟩
 cases e with
 | returned u=>obtain⟨m',a,K',h1,h2,h3,h4⟩:=he;exact⟨m',a,K',h1,h2,h3,hk _ _ h4⟩
 | panicked ch=>obtain⟨m',a,u,K',h0,h1,h2,h3,h4⟩:=he;exact⟨m',a,u,K',h0,h1,h2,h3,hk _ _ h4⟩
 | outgrown=>exact he.elim
def Wk (bs:List AV) (K:List ABlk) (bs':List AV) (K':List ABlk):Prop :=
 ∀ w m Args,St w m (hp K)→VL w m bs Args→∃ m',Tr w m w m'∧St w m' (hp K')∧VL w m' bs' Args
def Wk1 (n:Nat) (a:AV) (K:List ABlk) (a':AV) (K':List ABlk):Prop :=
 ∀ w m u we me,Tr we me w m→(∀ r,n≤r→me.L r=.absent)→St w m (hp K)→V w m a u→∃ m',Tr we me w m'∧St w m' (hp K')∧V w m' a' u
theorem ACalls.pre {f:FuncId} {args args':List AV} {K K':List ABlk} {k:AO→List ABlk→Prop} (h:ACalls P f args' K' k) (hw:Wk args K args' K'):ACalls P f args K k:=by
 refine⟨h.1,fun w m Args hS hV=>?_⟩
 obtain⟨m',hT,hS',hV'⟩:=hw w m Args hS hV
 refine (h.2 w m' Args hS' hV').mono fun e w' he=>?_
 cases e with
 | returned u=>obtain⟨m2,a,K2,h1,h2,h3,h4⟩:=he;exact⟨m2,a,K2,hT.trans h1,h2,h3,h4⟩
 | panicked ch=>obtain⟨m2,a,u,K2,h0,h1,h2,h3,h4⟩:=he;exact⟨m2,a,u,K2,h0,hT.trans h1,h2,h3,h4⟩
 | outgrown=>exact he.elim
def AO.val:AO→AV
 | .ret v=>v
 | .pan v=>v
def AO.with (a:AV):AO→AO
 | .ret _=>.ret a
 | .pan _=>.pan a
theorem ACalls.post {f:FuncId} {args:List AV} {K:List ABlk} {k k':AO→List ABlk→Prop} (h:ACalls P f args K k)
  (hk:∀ ao K1,k ao K1→∃ a' K2,Wk1 K.length ao.val K1 a' K2∧k' (ao.with a') K2):ACalls P f args K k':=by
 refine⟨h.1,fun w m Args hS hV=>(h.2 w m Args hS hV).mono fun e w' he=>?_⟩
 cases e with
 | returned u =>
  obtain⟨m',a,K',h1,h2,h3,h4⟩:=he
  obtain⟨a',K2,hw,hk2⟩:=hk _ _ h4
  obtain⟨m2,h5,h6,h7⟩:=hw _ _ _ _ _ h1 (fun r hr=>hS.ge r hr) h2 h3
  exact⟨m2,a',K2,h5,h6,h7,hk2⟩
 | panicked ch =>
  obtain⟨m',a,u,K',h0,h1,h2,h3,h4⟩:=he
  obtain⟨a',K2,hw,hk2⟩:=hk _ _ h4
  obtain⟨m2,h5,h6,h7⟩:=hw _ _ _ _ _ h1 (fun r hr=>hS.ge r hr) h2 h3
  exact⟨m2,a',u,K2,h0,h5,h6,h7,hk2⟩
 | outgrown=>exact he.elim
def deads:Nat→List ABlk
 | 0=>[]
 | n+1=>.dead::deads n
theorem deads_length (n:Nat):(deads n).length=n:=by
 induction n with
 | zero=>rfl
 | succ n ih=>simp [deads,ih]
theorem hp_deads (n r:Nat) (h:r<n):hp (deads n) r=.dead:=by
 induction n generalizing r with
 | zero=>omega
 | succ n ih =>
  cases r with
  | zero=>rfl
  | succ r=>exact ih r (by omega)
def frameK (n:Nat) (k:AO→List ABlk→Prop):AO→List ABlk→Prop
 | .ret a,K=>a.cl n=true∧n≤K.length∧(∀ r,r<n→(hp K r).cl n)∧k (.ret a) (takeN K n)
 | .pan a,_=>a.cl 0=true∧k (.pan a) (deads n)
def Mp.glue (n:Nat) (m m':Mp) (L:Nat→Inf):Mp:=⟨fun r=>if r<n then m'.ρ r else m.ρ r,m'.I,fun r=>if r<n then L r else m.L r⟩
theorem glue_ok {n:Nat} {w w':World} {m m':Mp} {K0 K1 X:List ABlk} {L:Nat→Inf} (hn:K0.length=n) (hn1:K1.length=n) (hS:St w m (hp (K0++X)))
  (hT:Tr w (m.cut n) w' m') {H:Nat→ABlk} (hS':St w' m' H)
  (hL:∀ r,r<n→(L r).isLive→L r=m'.L r)
  (hstep:∀ r,r<n→(m.L r).step (L r) (m'.ρ r=m.ρ r))
  (hblk:∀ r,r<n→BlkOk w' (m.glue n m' L) (L r) (m'.ρ r) (hp K1 r)) :
  Tr w m w' (m.glue n m' L)∧St w' (m.glue n m' L) (hp (K1++X)):=by
 have hcl:∀ r,r<n→(m.cut n).L r=m.L r:=fun r hr=>by simp [Mp.cut,hr]
 have hcg:∀ r,¬ r<n→(m.cut n).L r=.absent:=fun r hr=>by simp [Mp.cut,hr]
 have hlt:∀ r,((m.cut n).L r).isLive→r<n∧(m.L r).isLive:=fun r h=>by
  by_cases hr:r<n
  ·rw [hcl r hr] at h;exact⟨hr,h⟩
  ·rw [hcg r hr] at h;exact h.elim
 have hsep:∀ r r',r<n→((L r).isLive)→¬ r'<n→(m.L r').isLive→m'.ρ r≠m.ρ r':=fun r r' hr hl hr' hl' e=>by
  have hl2:(m'.L r).isLive:=hL r hr hl▸hl
  rcases hT.newρ r hl2 with ⟨h1,h2⟩|h1
  ·have h3:=(hlt r h1).2
   have:m.ρ r=m.ρ r':=by rw [← e];exact h2.symm
   exact hr' (hS.inj r r' h3 hl' this▸hr)
  ·have:=hS.lt r' hl';omega
 have hTr:Tr w m w' (m.glue n m' L):={
  os:=hT.os
  tape:=hT.tape
  output:=hT.output
  size:=hT.size
  out:=fun b hb hr=>hT.out b hb fun r hl=>hr r (hlt r hl).2
  imm:=fun b hb=>hT.imm b hb
  same:=fun b hb=>hT.same b hb
  newI:=fun b hb=>by
   rcases hT.newI b hb with h|⟨r,h1,h2⟩|h
   ·exact .inl h
   ·exact .inr (.inl ⟨r,(hlt r h1).2,h2⟩)
   ·exact .inr (.inr h)
  step:=fun r=>by
   by_cases hr:r<n
   ·simp only [Mp.glue,hr,if_true];exact hstep r hr
   ·simp only [Mp.glue,hr,if_false];exact Inf.step_refl _ _ trivial
  newρ:=fun r hl=>by
   by_cases hr:r<n
   ·simp only [Mp.glue,hr,if_true] at hl ⊢
    rcases hT.newρ r (hL r hr hl▸hl) with ⟨h1,h2⟩|h1
    ·exact .inl ⟨(hlt r h1).2,h2⟩
    ·exact .inr h1
   ·simp only [Mp.glue,hr,if_false] at hl ⊢;exact .inl ⟨hl,trivial⟩ }
 refine⟨hTr,?_,?_,?_,hS'.Ilt,hS'.gl,?_⟩
 ·intro r r' h1 h2 e
  by_cases hr:r<n<;>by_cases hr':r'<n<;>simp only [Mp.glue,hr,hr',if_true,if_false] at h1 h2 e
  ·exact hS'.inj r r' (hL r hr h1▸h1) (hL r' hr' h2▸h2) e
  ·exact absurd e (hsep r r' hr h1 hr' h2)
  ·exact absurd e.symm (hsep r' r hr' h2 hr h1)
  ·exact hS.inj r r' h1 h2 e
 ·intro r h1 hI
  by_cases hr:r<n<;>simp only [Mp.glue,hr,if_true,if_false] at h1 hI
  ·exact hS'.notI r (hL r hr h1▸h1) hI
  ·rcases hT.newI _ hI with h|⟨r0,h2,h3⟩|h
   ·exact hS.notI r h1 h
   ·have h4:=hlt r0 h2
    exact hr (hS.inj r0 r h4.2 h1 h3▸h4.1)
   ·have:=hS.lt r h1;omega
 ·intro r h1
  by_cases hr:r<n<;>simp only [Mp.glue,hr,if_true,if_false] at h1 ⊢
  ·exact hS'.lt r (hL r hr h1▸h1)
  ·have:=hS.lt r h1;have:=hT.size;omega
 ·intro r
  rw [hp_append,hn1]
  by_cases hr:r<n
  ·have:=hblk r hr
   rw [if_pos hr]
   have e1:(m.glue n m' L).L r=L r:=by simp [Mp.glue,hr]
   have e2:(m.glue n m' L).ρ r=m'.ρ r:=by simp [Mp.glue,hr]
   rw [e1,e2];exact this
  ·rw [if_neg hr]
   have e1:(m.glue n m' L).L r=m.L r:=by simp [Mp.glue,hr]
   have e2:(m.glue n m' L).ρ r=m.ρ r:=by simp [Mp.glue,hr]
   rw [e1,e2]
   have hb:=hS.blk r
   rw [hp_append,hn,if_neg hr] at hb
   by_cases hl:(m.L r).isLive
   ·refine hb.mono (hT.out _ (hS.lt r hl) fun r0 h0 e=>?_) (fun _ _ hv=>hv.mono hTr)
    have h4:=hlt r0 h0
    exact hr (hS.inj r0 r h4.2 hl e▸h4.1)
   ·exact hb.nolive hl
theorem ACalls.frame {f:FuncId} {args:List AV} {K0 X:List ABlk} {k:AO→List ABlk→Prop} (hc:AV.cls K0.length args=true) (hb:∀ r,r<K0.length→(hp K0 r).cl K0.length)
  (h:ACalls P f args K0 (frameK K0.length k)):ACalls P f args (K0++X) (fun ao K=>∃ K1,K=K1++X∧k ao K1):=by
 refine⟨h.1,fun w m Args hS hV=>?_⟩
 have hH:(fun r=>if r<K0.length then hp (K0++X) r else .absent)=hp K0:=by
  funext r
  by_cases hr:r<K0.length
  ·rw [if_pos hr,hp_append,if_pos hr]
  ·rw [if_neg hr,hp_ge _ _ (by omega)]
 have hS0:St w (m.cut K0.length) (hp K0):=by
  have:=hS.cut K0.length (fun r hr=>by rw [hp_append,if_pos hr];exact hb r hr)
  rwa [hH] at this
 have hV0:VL w (m.cut K0.length) args Args:=⟨hV.1,fun j hj hj'=>(hV.2 j hj hj').cut _ (AV.cls_get hc j hj)⟩
 refine (h.2 w (m.cut K0.length) Args hS0 hV0).mono fun e w' he=>?_
 cases e with
 | returned u =>
  obtain⟨m',a,K',h1,h2,h3,h4,h5,h6,h7⟩:=he
  have hagI:∀ b,m'.I b→(m.glue K0.length m' m'.L).I b:=fun b hb=>hb
  have hagρ:∀ r,r<K0.length→(m.glue K0.length m' m'.L).ρ r=m'.ρ r:=fun r hr=>by simp [Mp.glue,hr]
  have hagL:∀ r,r<K0.length→(m.glue K0.length m' m'.L).L r=m'.L r:=fun r hr=>by simp [Mp.glue,hr]
  have hg:=glue_ok (n:=K0.length) (K1:=takeN K' K0.length) (L:=m'.L) rfl (takeN_length _ _ h5) hS h1 h2 (fun r _ _=>rfl)
   (fun r hr=>by have:=h1.step r;simpa [Mp.cut,hr] using this)
   (fun r hr=>by rw [hp_takeN,if_pos hr];exact (h2.blk r).agree hagI hagρ hagL (h6 r hr))
  exact⟨_,a,takeN K' K0.length++X,hg.1,hg.2,h3.agree hagI hagρ hagL h4,_,rfl,h7⟩
 | panicked ch =>
  obtain⟨m',a,u,K',h0,h1,h2,h3,h4,h7⟩:=he
  have hg:=glue_ok (n:=K0.length) (K1:=deads K0.length) (L:=fun _=>.dead) rfl (deads_length _) hS h1 h2 (fun r _ hl=>hl.elim)
   (fun r hr=>by
    cases hL:m.L r with
    | absent=>trivial
    | dead=>rfl
    | nil=>exact .inl rfl
    | live=>exact .inl rfl)
   (fun r hr=>by rw [hp_deads _ _ hr];rfl)
  exact⟨_,a,u,deads K0.length++X,h0,hg.1,hg.2,h3.agree (n:=0) (m:=m') (m':=m.glue K0.length m' fun _=>.dead) (fun b hb=>hb) (fun r hr=>by omega) (fun r hr=>by omega) h4,_,rfl,h7⟩
 | outgrown=>exact he.elim
def AV.le (a b:AV):Prop:=∀ w m u,V w m a u→V w m b u
theorem AV.le_refl (a:AV):a.le a:=fun _ _ _ h=>h
theorem AV.le_junk (a:AV):a.le .junk:=fun _ _ u _=>.junk u
theorem AV.le_of_eq {a b:AV} (h:a=b):a.le b:=h▸AV.le_refl a
theorem AV.nils_le (sz:Nat) (f:Nat→List PV):(AV.p .nils).le (.p (.sl sz 0 f)):=fun w m u h=>by
 cases h with
 | p _ _ h=>cases h;exact .p _ _ (.sl0 sz f none 0)
theorem AV.sl_le {sz n n':Nat} {f f':Nat→List PV} (hn:n'=n) (h:∀ i,i<n→f' i=f i):(AV.p (.sl sz n f)).le (.p (.sl sz n' f')):=fun w m u hv=>by
 subst hn
 cases hv with
 | p _ _ hv =>
  cases hv with
  | sl0 _ _ a c=>exact .p _ _ (.sl0 sz f' a c)
  | sl _ _ _ b o c u hI hcap hc hv =>
   refine .p _ _ (.sl sz n' f' b o c u hI hcap (fun i hi j hj=>?_) (fun i hi=>?_))
   ·exact hc i hi j (by rw [← h i hi];exact hj)
   ·rw [h i hi];exact hv i hi
def lesL:List AV→List AV→Prop
 | [],[]=>True
 | a::l,b::l'=>a.le b∧lesL l l'
 | _,_=>False
theorem lesL.get {l l':List AV} (h:lesL l l'):l.length=l'.length∧∀ j (hj:j<l.length) (hj':j<l'.length),l[j].le l'[j]:=by
 induction l generalizing l' with
 | nil=>cases l' with
  | nil=>exact⟨rfl,fun j hj=>by simp at hj⟩
  | cons b l'=>exact h.elim
 | cons a l ih=>cases l' with
  | nil=>exact h.elim
  | cons b l' =>
   obtain⟨h1,h2⟩:=ih h.2
   refine⟨by simp [h1],fun j hj hj'=>?_⟩
   cases j with
   | zero=>exact h.1
   | succ j=>exact h2 j (by simpa using hj) (by simpa using hj')
theorem lesL.refl (l:List AV):lesL l l:=by
 induction l with
 | nil=>trivial
 | cons a l ih=>exact⟨AV.le_refl a,ih⟩
def ABlk.le (b b':ABlk):Prop:=∀ w m l g,BlkOk w m l g b→BlkOk w m l g b'
theorem ABlk.le_refl (b:ABlk):b.le b:=fun _ _ _ _ h=>h
theorem ABlk.le_of_eq {a b:ABlk} (h:a=b):a.le b:=h▸ABlk.le_refl a
theorem ABlk.box_le {ty:TypeId} {cs cs':List AV} (h:lesL cs cs'):(ABlk.box ty cs).le (.box ty cs'):=fun w m l g hb=>by
 obtain⟨h1,h2⟩:=h.get
 obtain⟨hl,c,hc,hs,hv⟩:=hb
 refine⟨by rw [← h1];exact hl,c,hc,by rw [hs,h1],fun j hj=>?_⟩
 obtain⟨u,hu,hv⟩:=hv j (by omega)
 exact⟨u,hu,h2 j (by omega) hj _ _ _ hv⟩
theorem ABlk.arr_le {ty:TypeId} {sz ver n n':Nat} {f f':Nat→List AV} (hn:n'=n) (h:∀ i,i<n→lesL (f i) (f' i)):(ABlk.arr ty sz ver n f).le (.arr ty sz ver n' f'):=fun w m l g hb=>by
 subst hn
 rcases hb with hb|⟨cap,c,hl,h0,h00,hc,hs,hv⟩
 ·exact .inl hb
 refine .inr ⟨cap,c,hl,h0,h00,hc,hs,fun i hi=>?_⟩
 obtain⟨h1,h2⟩:=(h i hi).get
 obtain⟨h3,h4⟩:=hv i hi
 refine⟨by omega,fun j hj=>?_⟩
 obtain⟨u,hu,hv⟩:=h4 j (by omega)
 exact⟨u,hu,h2 j (by omega) hj _ _ _ hv⟩
theorem ABlk.arr_eq {ty:TypeId} {sz ver n n':Nat} {f f':Nat→List AV} (hn:n'=n) (h:∀ i,i<n→f i=f' i):(ABlk.arr ty sz ver n f).le (.arr ty sz ver n' f') :=
 ABlk.arr_le hn fun i hi=>h i hi▸lesL.refl _
def lesK:List ABlk→List ABlk→Prop
 | [],[]=>True
 | a::l,b::l'=>a.le b∧lesK l l'
 | _,_=>False
theorem lesK.refl (l:List ABlk):lesK l l:=by
 induction l with
 | nil=>trivial
 | cons a l ih=>exact⟨ABlk.le_refl a,ih⟩
theorem lesK.hp {K K':List ABlk} (h:lesK K K') (r:Nat):(hp K r).le (hp K' r):=by
 induction K generalizing K' r with
 | nil=>cases K' with
  | nil=>exact ABlk.le_refl _
  | cons b l'=>exact h.elim
 | cons a l ih=>cases K' with
  | nil=>exact h.elim
  | cons b l' =>
   cases r with
   | zero=>exact h.1
   | succ r=>exact ih h.2 r
theorem lesK.head {K L:List ABlk} {n:Nat} (h:lesK (takeN K n) L):lesK K (L++dropN K n):=by
 induction n generalizing K L with
 | zero =>
  have e:takeN K 0=[]:=by cases K<;>rfl
  rw [e] at h
  cases L with
  | nil =>
   have e:dropN K 0=K:=by cases K<;>rfl
   rw [e];exact lesK.refl _
  | cons=>exact h.elim
 | succ n ih =>
  cases K with
  | nil =>
   cases L with
   | nil=>trivial
   | cons=>exact h.elim
  | cons b K =>
   cases L with
   | nil=>exact h.elim
   | cons c L=>exact⟨h.1,ih h.2⟩
theorem St.les {w:World} {m:Mp} {K K':List ABlk} (hS:St w m (hp K)) (h:lesK K K'):St w m (hp K') :=
 ⟨hS.inj,hS.notI,hS.lt,hS.Ilt,hS.gl,fun r=>h.hp r _ _ _ _ (hS.blk r)⟩
theorem Le.trans {kb:Nat} {s s' s'':AS} (h:Le kb s s') (h':Le kb s' s''):Le kb s s'':=fun we me hk w m tmps hT hS hE=>by
 obtain⟨m',h1,h2,h3,h4⟩:=h we me hk w m tmps hT hS hE
 obtain⟨m2,k1,k2,k3,k4⟩:=h' we me hk w m' tmps h1 h2 h3
 exact⟨m2,k1,k2,k3,h4.trans k4⟩
def subE (t:List (Nat×AV)):List (Nat×AV)→Prop
 | []=>True
 | (d,v)::r=>(look t d).le v∧subE t r
theorem subE.look {t t':List (Nat×AV)} (h:subE t t') (d:Nat):(look t d).le (look t' d):=by
 induction t' with
 | nil=>exact AV.le_junk _
 | cons x r ih =>
  obtain⟨j,v⟩:=x
  rw [look_cons]
  by_cases e:j=d
  ·subst e;rw [if_pos rfl];exact h.1
  ·rw [if_neg e];exact ih h.2
theorem Le.env {kb:Nat} {t t':List (Nat×AV)} {K K':List ABlk} (h:subE t t') (hK:lesK K K'):Le kb ⟨t,K⟩ ⟨t',K'⟩:=fun _ _ _ _ m _ hT hS hE =>
 ⟨m,hT,hS.les hK,fun d=>h.look d _ _ _ (hE d),.refl m⟩
theorem clE.look {n:Nat} {t:List (Nat×AV)} (h:clE n t=true) (d:Nat):(look t d).cl n=true:=clE_look h d
def clK (n:Nat):List ABlk→Prop
 | []=>True
 | b::r=>b.cl n∧clK n r
theorem clK.hp {n:Nat} {K:List ABlk} (h:clK n K) (r:Nat):(hp K r).cl n:=by
 induction K generalizing r with
 | nil=>exact trivial
 | cons b K ih =>
  cases r with
  | zero=>exact h.1
  | succ r=>exact ih h.2 r
theorem cut_St {w:World} {m:Mp} {K:List ABlk} {n:Nat} (hS:St w m (hp K)) (h:clK n (takeN K n)):St w (m.cut n) (hp (takeN K n)):=by
 have hcl:∀ r,r<n→(hp K r).cl n:=fun r hr=>by
  have:=clK.hp h r
  rwa [hp_takeN,if_pos hr] at this
 have:=hS.cut n hcl
 have e:(fun r=>if r<n then hp K r else .absent)=hp (takeN K n):=by
  funext r;rw [hp_takeN]
 rwa [e] at this
theorem Le.cut {kb n:Nat} {t:List (Nat×AV)} {K:List ABlk} (hn:Nat.ble kb n=true) (ht:clE n t=true) (hK:clK n (takeN K n)):Le kb ⟨t,K⟩ ⟨t,takeN K n⟩:=fun _ _ hk _ m _ hT hS hE =>
 ⟨m.cut n,hT.cut n (fun r hr=>hk r (Nat.le_trans (Nat.le_of_ble_eq_true hn) hr)),cut_St hS hK,fun d=>(hE d).cut n (clE.look ht d),.cut m n⟩
theorem Wk1.cut {n:Nat} {a:AV} {K:List ABlk} (k:Nat) (hn:n≤k) (ha:a.cl k=true) (hK:clK k (takeN K k)):Wk1 n a K a (takeN K k):=fun _ m _ _ _ hT hk hS hV =>
 ⟨m.cut k,hT.cut k (fun r hr=>hk r (by omega)),cut_St hS hK,hV.cut k ha⟩
theorem Wk1.refl (n:Nat) (a:AV) (K:List ABlk):Wk1 n a K a K:=fun _ m _ _ _ hT _ hS hV=>⟨m,hT,hS,hV⟩
theorem Wk1.trans {n:Nat} {a a' a'':AV} {K K' K'':List ABlk} (h:Wk1 n a K a' K') (h':Wk1 n a' K' a'' K''):Wk1 n a K a'' K'':=fun w m u we me hT hk hS hV=>by
 obtain⟨m',h1,h2,h3⟩:=h w m u we me hT hk hS hV
 exact h' w m' u we me h1 hk h2 h3
theorem Wk1.le {n:Nat} {a a':AV} {K K':List ABlk} (h:a.le a') (hK:lesK K K'):Wk1 n a K a' K':=fun _ m _ _ _ hT _ hS hV=>⟨m,hT,hS.les hK,h _ _ _ hV⟩
theorem Wk.le {bs bs':List AV} {K K':List ABlk} (h:lesL bs bs') (hK:lesK K K'):Wk bs K bs' K':=fun w m us hS hV =>
 ⟨m,Tr.refl w m,hS.les hK,by
  obtain⟨h1,h2⟩:=h.get
  exact⟨h1▸hV.1,fun j hj hj'=>h2 j (by omega) hj _ _ _ (hV.2 j (by omega) hj')⟩⟩
theorem upd_setN {K:List ABlk} {r:Nat} (b:ABlk) (hr:r<K.length):upd (hp K) r b=hp (setN K r b):=by
 induction K generalizing r with
 | nil=>simp at hr
 | cons c K ih =>
  funext j
  cases r with
  | zero=>cases j<;>simp [upd,hp,setN,nth]
  | succ r =>
   cases j with
   | zero=>simp [upd,hp,setN,nth]
   | succ j =>
    have:=congrFun (ih (r:=r) (by simpa using hr)) j
    simp only [upd,hp,setN,nth] at this ⊢
    rw [← this]
    simp
theorem nth_lt {α:Type} {l:List α} {r:Nat} {b:α} (h:nth l r=some b):r<l.length:=by
 induction l generalizing r with
 | nil=>simp [nth] at h
 | cons a l ih =>
  cases r with
  | zero=>simp
  | succ r=>simp only [nth] at h;have:=ih h;simp;omega
def Mp.kill (m:Mp) (r:Nat):Mp:={ m with L:=fun k=>if k=r then .dead else m.L k }
theorem Tr.kill {w:World} {m:Mp} {r v:Nat} (hr:m.L r=.nil v):Tr w m w (m.kill r) where
 os:=rfl
 tape:=rfl
 output:=rfl
 size:=Nat.le_refl _
 out:=fun _ _ _=>rfl
 imm:=fun _ h=>h
 same:=fun _ _=>rfl
 newI:=fun _ h=>.inl h
 step:=fun k=>by
  simp only [Mp.kill]
  by_cases hk:k=r
  ·subst hk;simp only [if_true];rw [hr];exact .inl rfl
  ·simp only [hk,if_false];exact Inf.step_refl _ _ trivial
 newρ:=fun k hk=>by
  simp only [Mp.kill] at hk ⊢
  by_cases hk':k=r
  ·subst hk';simp [Inf.isLive] at hk
  ·simp only [hk',if_false] at hk;exact .inl ⟨hk,trivial⟩
theorem freeze_sl {w:World} {m:Mp} {K:List ABlk} {r ty sz ver n:Nat} {f:Nat→List AV} (hS:St w m (hp K)) (hr:nth K r=some (.arr ty sz ver n f)) (g:Nat→List PV) (hg:∀ i,i<n→f i=pvs (g i)) :
  ∃ m',Tr w m w m'∧St w m' (hp (setN K r .dead))∧(∀ u,V w m (.slr r ver 0 n) u→V w m' (.p (.sl sz n g)) u):=by
 have hrl:=nth_lt hr
 have hb:=hS.blk r
 have e:hp K r=.arr ty sz ver n f:=by simp [hp,hr]
 rw [e] at hb
 rcases hb with ⟨hL,h0⟩|⟨cap,c,hL,hn,hm,hc,hs,hv⟩
 ·
  subst h0
  have hT:=Tr.kill (w:=w) hL
  refine⟨m.kill r,hT,?_,fun u hu=>?_⟩
  ·rw [← upd_setN _ hrl]
   have hlive:∀ k,((m.kill r).L k).isLive→(m.L k).isLive:=fun k hk=>by
    simp only [Mp.kill] at hk
    by_cases e:k=r
    ·simp [e,Inf.isLive] at hk
    ·simpa [e] using hk
   refine⟨fun r1 r2 h1 h2 e=>hS.inj r1 r2 (hlive _ h1) (hlive _ h2) e,fun r1 h1=>hS.notI r1 (hlive _ h1),fun r1 h1=>hS.lt r1 (hlive _ h1),hS.Ilt,hS.gl,fun k=>?_⟩
   by_cases hk:k=r
   ·subst hk;simp [upd,Mp.kill,BlkOk]
   ·have hk2:=(hS.blk k).mono (w':=w) (m':=m.kill r) rfl (fun a u hv=>hv.mono hT)
    simp only [upd,Mp.kill,hk,if_false]
    exact hk2
  ·cases hu with
   | slr _ _ _ _ N sz' cap h _=>rw [hL] at h;simp at h
   | slrNil _ _ h=>exact .p _ _ (.sl0 sz g none 0)
   | slrOld _ _ _ _ ad c h=>exact .p _ _ (.sl0 sz g ad c)
 ·have hl:(m.L r).isLive:=by rw [hL];trivial
  have hcell:∀ i,i<n→∀ j,j<(g i).length→∃ u,c[i*sz+j]?=some u∧VP w m.I ((g i).getD j .nilp) u:=fun i hi j hj=>by
   obtain⟨h1,h2⟩:=hv i hi
   have e2:=hg i hi
   have hlen:(f i).length=(g i).length:=by rw [e2,pvs_len]
   obtain⟨u,hu,hvu⟩:=h2 j (by omega)
   refine⟨u,hu,?_⟩
   have e3:(f i)[j]'(by omega)=.p ((g i)[j]):=by
    have:(f i)[j]?=some (.p ((g i)[j])):=by rw [e2,List.getElem?_eq_getElem (by rw [pvs_len];exact hj),pvs_get]
    rw [List.getElem?_eq_getElem (by omega)] at this
    exact Option.some.inj this
   rw [e3] at hvu
   cases hvu with
   | p _ _ h=>rw [List.getD_eq_getElem?_getD,List.getElem?_eq_getElem hj];exact h
  refine⟨m.freeze r,Tr.freeze r hl,?_,fun u hu=>?_⟩
  ·rw [← upd_setN _ hrl];exact hS.freeze r hl
  ·cases hu with
   | slr _ _ _ _ N sz' cap' h hN =>
    rw [hL] at h
    simp only [Inf.live.injEq] at h
    obtain⟨-,-,rfl,rfl⟩:=h
    refine .p _ _ ?_
    rw [Nat.zero_mul,Nat.sub_zero]
    have hcs:∀ i,i<n→∀ j,j<(g i).length→w.cell? ⟨m.ρ r,0+(i*sz+j),none⟩=some (c.getD (i*sz+j) undef):=fun i hi j hj=>by
     obtain⟨u,hu,_⟩:=hcell i hi j hj
     simp [World.cell?,hc,hu,Array.getD_eq_getD_getElem?]
    refine .sl sz n g (m.ρ r) 0 cap (fun i j=>c.getD (i*sz+j) undef) (.inr rfl) ⟨hn,Nat.le_trans hn hm⟩ hcs fun i hi j hj=>?_
    obtain⟨u,hu,hvu⟩:=hcell i hi j hj
    have e4:c.getD (i*sz+j) undef=u:=by rw [Array.getD_eq_getD_getElem?,hu];rfl
    rw [List.getD_eq_getElem?_getD,List.getElem?_eq_getElem hj] at hvu
    show VP w (m.freeze r).I _ _
    rw [e4]
    exact hvu.mono (fun _ hb=>.inl hb) (fun _ _=>rfl)
   | slrNil _ _ h=>rw [hL] at h;simp at h
   | slrOld _ _ _ _ ad c' h=>rw [hL] at h;simp [Inf.old] at h
theorem Wk1.freeze {N:Nat} {K:List ABlk} {r ty sz ver n:Nat} {f:Nat→List AV} (hr:nth K r=some (.arr ty sz ver n f)) (g:Nat→List PV) (hg:∀ i,i<n→f i=pvs (g i)) :
  Wk1 N (.slr r ver 0 n) K (.p (.sl sz n g)) (setN K r .dead):=fun w m u we me hT _ hS hV=>by
 obtain⟨m',h1,h2,h3⟩:=freeze_sl hS hr g hg
 exact⟨m',hT.trans h1,h2,h3 u hV⟩
def allLt (p:Nat→Prop):Nat→Prop
 | 0=>True
 | n+1=>allLt p n∧p n
theorem allLt_ok {p:Nat→Prop} {n:Nat} (h:allLt p n):∀ i,i<n→p i:=by
 induction n with
 | zero=>intro i hi;omega
 | succ n ih =>
  intro i hi
  by_cases e:i=n
  ·subst e;exact h.2
  ·exact ih h.1 i (by omega)
theorem LoopW.by {kb:Nat} {F:AS→(Ex→AS→Prop)→Prop} {Q:Ex→AS→Prop} {ι:Type} (st:ι→AS) (Pre:ι→Prop) (μ:ι→Nat)
  (h:∀ (X:AS→Prop),(∀ s s',Le kb s s'→X s'→X s)→∀ i,Pre i→(∀ j,μ j<μ i→Pre j→X (st j))→F (st i) (fun e s'=>match e with | .norm=>X s'|e=>Q e s'))
  (i:ι) (hi:Pre i):LoopW kb F (st i) Q:=⟨fun X hF hL=>by
 have:∀ n i,μ i<n→Pre i→X (st i):=by
  intro n
  induction n with
  | zero=>intro i h;omega
  | succ n ih=>exact fun i hn hp=>hF _ (h X hL i hp fun j hj hpj=>ih j (by omega) hpj)
 exact this _ i (Nat.lt_succ_self _) hi⟩
theorem LoopW.le {kb:Nat} {F:AS→(Ex→AS→Prop)→Prop} {Q:Ex→AS→Prop} {s s':AS} (h:Le kb s s') (hl:LoopW kb F s' Q):LoopW kb F s Q :=
 ⟨fun X hF hL=>hL _ _ h (hl.out X hF hL)⟩
theorem Le.cutEnv {kb:Nat} (n:Nat) {t t':List (Nat×AV)} {K K':List ABlk} (hn:Nat.ble kb n=true) (ht:clE n t'=true) (hK:clK n (takeN K n)) (h:subE t t') (hK':lesK (takeN K n) K'):Le kb ⟨t,K⟩ ⟨t',K'⟩:=by
 refine Le.trans (Le.env h (lesK.refl K)) (Le.trans (Le.cut hn ht hK) ?_)
 exact fun _ _ _ _ m _ hT hS hE=>⟨m,hT,hS.les hK',hE,.refl m⟩
theorem loop_by {kb:Nat} {F:AS→(Ex→AS→Prop)→Prop} {Q:Ex→AS→Prop} {t:List (Nat×AV)} {K:List ABlk} {ι:Type} (st:ι→AS) (Pre:ι→Prop) (μ:ι→Nat) (i:ι)
  (hs:subE t (st i).t) (hK:lesK K (st i).K) (hi:Pre i)
  (h:∀ (X:AS→Prop),(∀ s s',Le kb s s'→X s'→X s)→∀ i,Pre i→(∀ j,μ j<μ i→Pre j→X (st j))→F (st i) (fun e s'=>match e with | .norm=>X s'|e=>Q e s')) :
  LoopW kb F ⟨t,K⟩ Q:=LoopW.le (Le.env hs hK) (LoopW.by st Pre μ h i hi)
end
end Go.AE
namespace Go.AE
section
variable {P:Program} {T:Tab}
def nsw (r:Nat) (a b:AV):Prop:=a.le b∨(a=.p .nils∧b=.slr r 0 0 0)
def nswL (r:Nat):List AV→List AV→Prop
 | [],[]=>True
 | a::l,b::l'=>nsw r a b∧nswL r l l'
 | _,_=>False
def nswB (r:Nat) (b b':ABlk):Prop:=b.le b'∨∃ ty cs cs',b=.box ty cs∧b'=.box ty cs'∧nswL r cs cs'
def nswK (r:Nat):List ABlk→List ABlk→Prop
 | [],[]=>True
 | a::l,b::l'=>nswB r a b∧nswK r l l'
 | _,_=>False
def nswE (r:Nat) (t:List (Nat×AV)):List (Nat×AV)→Prop
 | []=>True
 | (d,v)::l=>nsw r (look t d) v∧nswE r t l
theorem nsw.v {r:Nat} {a b:AV} (h:nsw r a b) {w:World} {m:Mp} {u:Value} (hr:m.L r=.nil 0) (hv:V w m a u):V w m b u:=by
 rcases h with h|⟨rfl,rfl⟩
 ·exact h _ _ _ hv
 ·cases hv with
  | p _ _ h=>cases h;exact .slrNil r 0 hr
theorem nswL.get {r:Nat} {l l':List AV} (h:nswL r l l'):l.length=l'.length∧∀ j (hj:j<l.length) (hj':j<l'.length),nsw r l[j] l'[j]:=by
 induction l generalizing l' with
 | nil=>cases l' with
  | nil=>exact⟨rfl,fun j hj=>by simp at hj⟩
  | cons b l'=>exact h.elim
 | cons a l ih=>cases l' with
  | nil=>exact h.elim
  | cons b l' =>
   obtain⟨h1,h2⟩:=ih h.2
   refine⟨by simp [h1],fun j hj hj'=>?_⟩
   cases j with
   | zero=>exact h.1
   | succ j=>exact h2 j (by simpa using hj) (by simpa using hj')
theorem nswB.ok {r:Nat} {b b':ABlk} (h:nswB r b b') {w:World} {m:Mp} {l:Inf} {g:Nat} (hr:m.L r=.nil 0) (hb:BlkOk w m l g b):BlkOk w m l g b':=by
 rcases h with h|⟨ty,cs,cs',rfl,rfl,h⟩
 ·exact h _ _ _ _ hb
 ·obtain⟨h1,h2⟩:=h.get
  obtain⟨hl,c,hc,hs,hv⟩:=hb
  refine⟨by rw [← h1];exact hl,c,hc,by rw [hs,h1],fun j hj=>?_⟩
  obtain⟨u,hu,hv⟩:=hv j (by omega)
  exact⟨u,hu,(h2 j (by omega) hj).v hr hv⟩
theorem nswK.length {r:Nat} {K K':List ABlk} (h:nswK r K K'):K.length=K'.length:=by
 induction K generalizing K' with
 | nil=>cases K' with
  | nil=>rfl
  | cons b l'=>exact h.elim
 | cons a l ih=>cases K' with
  | nil=>exact h.elim
  | cons b l'=>simp [ih h.2]
theorem nswK.hp {r:Nat} {K K':List ABlk} (h:nswK r K K') (j:Nat):nswB r (hp K j) (hp K' j):=by
 induction K generalizing K' j with
 | nil=>cases K' with
  | nil=>exact .inl (ABlk.le_refl _)
  | cons b l'=>exact h.elim
 | cons a l ih=>cases K' with
  | nil=>exact h.elim
  | cons b l' =>
   cases j with
   | zero=>exact h.1
   | succ j=>exact ih h.2 j
theorem nswK.refl (r:Nat) (K:List ABlk):nswK r K K:=by
 induction K with
 | nil=>trivial
 | cons b K ih=>exact⟨.inl (ABlk.le_refl b),ih⟩
theorem nswE.look {r:Nat} {t t':List (Nat×AV)} (h:nswE r t t') (d:Nat):nsw r (look t d) (look t' d):=by
 induction t' with
 | nil=>exact .inl (AV.le_junk _)
 | cons x l ih =>
  obtain⟨j,v⟩:=x
  rw [look_cons]
  by_cases e:j=d
  ·subst e;rw [if_pos rfl];exact h.1
  ·rw [if_neg e];exact ih h.2
theorem Tr.nil {w:World} {m:Mp} {r:Nat} (hr:m.L r=.absent):Tr w m w (m.set r 0 (.nil 0)) where
 os:=rfl
 tape:=rfl
 output:=rfl
 size:=Nat.le_refl _
 out:=fun _ _ _=>rfl
 imm:=fun _ h=>h
 same:=fun _ _=>rfl
 newI:=fun _ h=>.inl h
 step:=fun k=>by
  simp only [Mp.set]
  by_cases hk:k=r
  ·subst hk;rw [hr];trivial
  ·simp only [hk,if_false];exact Inf.step_refl _ _ trivial
 newρ:=fun k hk=>by
  simp only [Mp.set] at hk ⊢
  by_cases hk':k=r
  ·subst hk';simp [Inf.isLive] at hk
  ·simp only [hk',if_false] at hk ⊢;exact .inl ⟨hk,trivial⟩
theorem nil_core {w:World} {m:Mp} {K K':List ABlk} (ty sz:Nat) (f:Nat→List AV) (hS:St w m (hp K)) (hK:nswK K.length K K') :
  ∃ m',Tr w m w m'∧St w m' (hp (K'++[.arr ty sz 0 0 f]))∧m'.L K.length=.nil 0:=by
 have ha:m.L K.length=.absent:=hS.ge _ (Nat.le_refl _)
 have hT2:=Tr.nil (w:=w) ha
 have hr:(m.set K.length 0 (.nil 0)).L K.length=.nil 0:=by simp [Mp.set]
 have hlive:∀ k,((m.set K.length 0 (.nil 0)).L k).isLive→k≠K.length∧(m.L k).isLive:=fun k hk=>by
  simp only [Mp.set] at hk
  by_cases e:k=K.length
  ·simp [e,Inf.isLive] at hk
  ·exact⟨e,by simpa [e] using hk⟩
 have hρ:∀ k,k≠K.length→(m.set K.length 0 (.nil 0)).ρ k=m.ρ k:=fun k hk=>by simp [Mp.set,hk]
 refine⟨_,hT2,⟨fun r1 r2 h1 h2 e=>?_,fun r1 h1=>?_,fun r1 h1=>?_,hS.Ilt,hS.gl,fun j=>?_⟩,hr⟩
 ·rw [hρ _ (hlive _ h1).1,hρ _ (hlive _ h2).1] at e
  exact hS.inj r1 r2 (hlive _ h1).2 (hlive _ h2).2 e
 ·rw [hρ _ (hlive _ h1).1];exact hS.notI r1 (hlive _ h1).2
 ·rw [hρ _ (hlive _ h1).1];exact hS.lt r1 (hlive _ h1).2
 ·rw [hp_append,← hK.length]
  by_cases e:j<K.length
  ·rw [if_pos e]
   have hb:=(hS.blk j).mono (w':=w) (m':=m.set K.length 0 (.nil 0)) rfl (fun a u hv=>hv.mono hT2)
   have hL:(m.set K.length 0 (.nil 0)).L j=m.L j:=by simp [Mp.set,show j≠K.length by omega]
   rw [hL,hρ _ (show j≠K.length by omega)]
   exact (hK.hp j).ok hr hb
  ·rw [if_neg e]
   by_cases e2:j=K.length
   ·subst e2
    rw [hr,Nat.sub_self]
    exact .inl ⟨rfl,rfl⟩
   ·have:hp [ABlk.arr ty sz 0 0 f] (j - K.length)=.absent:=hp_ge _ _ (by simp;omega)
    rw [this]
    show (m.set K.length 0 (.nil 0)).L j=.absent
    have:=hS.ge j (by omega)
    simpa [Mp.set,e2] using this
theorem Le.nilRow {kb:Nat} {t t':List (Nat×AV)} {K K':List ABlk} (ty sz:Nat) (f:Nat→List AV) (_:Nat.ble kb K.length=true) (ht:nswE K.length t t') (hK:nswK K.length K K') :
  Le kb ⟨t,K⟩ ⟨t',K'++[.arr ty sz 0 0 f]⟩:=fun we me hk w m tmps hT hS hE=>by
 obtain⟨m',h1,h2,h3⟩:=nil_core ty sz f hS hK
 exact⟨m',hT.trans h1,h2,fun d=>(ht.look d).v h3 ((hE d).mono h1),.tr h1 h2⟩
theorem ACalls.nil {f:FuncId} {args:List AV} {K:List ABlk} {k:AO→List ABlk→Prop}
  (h:ACalls P f args K (fun ao K1=>∃ ty sz g K2,nswK K1.length K1 K2∧k ao (K2++[.arr ty sz 0 0 g]))):ACalls P f args K k:=by
 refine h.post fun ao K1 ⟨ty,sz,g,K2,h1,h2⟩=>⟨ao.val,K2++[.arr ty sz 0 0 g],fun w m u we me hT hk hS hV=>?_,by cases ao<;>exact h2⟩
 obtain⟨m',h3,h4,_⟩:=nil_core ty sz g hS h1
 exact⟨m',hT.trans h3,h4,hV.mono h3⟩
theorem loop_nil {kb:Nat} {F:AS→(Ex→AS→Prop)→Prop} {Q:Ex→AS→Prop} {t:List (Nat×AV)} {K:List ABlk} {ι:Type} (ty sz:Nat) (f:Nat→List AV) (st:ι→AS) (Pre:ι→Prop) (μ:ι→Nat) (i:ι) (K1:List ABlk)
  (hkb:Nat.ble kb K.length=true) (hs:nswE K.length t (st i).t) (hK:nswK K.length K K1) (hK1:(st i).K=K1++[.arr ty sz 0 0 f]) (hi:Pre i)
  (h:∀ (X:AS→Prop),(∀ s s',Le kb s s'→X s'→X s)→∀ i,Pre i→(∀ j,μ j<μ i→Pre j→X (st j))→F (st i) (fun e s'=>match e with | .norm=>X s'|e=>Q e s')) :
  LoopW kb F ⟨t,K⟩ Q:=by
 refine LoopW.le (Le.nilRow ty sz f hkb hs hK) ?_
 have:=LoopW.by (kb:=kb) (F:=F) (Q:=Q) st Pre μ h i hi
 have e:st i=⟨(st i).t,K1++[.arr ty sz 0 0 f]⟩:=by
  cases hst:st i
  rw [hst] at hK1
  simp only at hK1
  rw [hK1]
 rwa [e] at this
theorem loop_cut {kb:Nat} {F:AS→(Ex→AS→Prop)→Prop} {Q:Ex→AS→Prop} {t:List (Nat×AV)} {K:List ABlk} {ι:Type} (n:Nat) (st:ι→AS) (Pre:ι→Prop) (μ:ι→Nat) (i:ι)
  (hn:Nat.ble kb n=true) (ht:clE n (st i).t=true) (hs:subE t (st i).t) (hK:clK n (takeN K n)) (hK':lesK (takeN K n) (st i).K) (hi:Pre i)
  (h:∀ (X:AS→Prop),(∀ s s',Le kb s s'→X s'→X s)→∀ i,Pre i→(∀ j,μ j<μ i→Pre j→X (st j))→F (st i) (fun e s'=>match e with | .norm=>X s'|e=>Q e s')) :
  LoopW kb F ⟨t,K⟩ Q:=LoopW.le (Le.cutEnv (t':=(st i).t) (K':=(st i).K) n hn ht hK hs hK') (LoopW.by st Pre μ h i hi)
theorem Wk1.tup_freeze1 {N:Nat} {K:List ABlk} {r ty sz ver n:Nat} {f:Nat→List AV} {l:List AV} (hr:nth K r=some (.arr ty sz ver n f)) (g:Nat→List PV) (hg:∀ i,i<n→f i=pvs (g i)) :
  Wk1 N (.tup (.slr r ver 0 n::l)) K (.tup (.p (.sl sz n g)::l)) (setN K r .dead):=fun w m u we me hT _ hS hV=>by
 obtain⟨m',h1,h2,h3⟩:=freeze_sl hS hr g hg
 refine⟨m',hT.trans h1,h2,?_⟩
 cases hV with
 | tup _ A hA hv =>
  refine .tup _ A hA fun j hj hj'=>?_
  cases j with
  | zero=>exact h3 _ (hv 0 (by simp) hj')
  | succ j=>exact (hv (j+1) (by simpa using hj) hj').mono h1
theorem AV.tup_le {l l':List AV} (h:lesL l l'):(AV.tup l).le (.tup l'):=fun w m u hV=>by
 obtain⟨h1,h2⟩:=h.get
 cases hV with
 | tup _ A hA hv=>exact .tup _ A (by rw [← h1];exact hA) fun j hj hj'=>h2 j (by omega) hj _ _ _ (hv j (by omega) hj')
end
end Go.AE
namespace Go.Proofs
open Go.Shelf
def Tryz.lays137_ren:Go.Shelf.Ren:=⟨fun|137=>138|217=>193|266=>219|n=>n,fun|9=>9|5=>5|3=>3|n=>n,fun|n=>n⟩
theorem Tryz.lays137:Go.Proofs.Lays.n137 Tryz.prog Tryz.lays137_ren:={
 mixed:=by kernel_rfl
 f137:=Tryz.func138.trans (congrArg some (by kernel_rfl))
 f217:=Tryz.func193.trans (congrArg some (by kernel_rfl))
 f266:=Tryz.func219.trans (congrArg some (by kernel_rfl))
 t3:=Tryz.underlying3
 a3:=Tryz.isAgg3
 z3:=Tryz.sizeOf3
 v3:=Tryz.zeroValue3
 t5:=Tryz.underlying5
 a5:=Tryz.isAgg5
 z5:=Tryz.sizeOf5
 v5:=Tryz.zeroValue5
 t9:=Tryz.underlying9
 a9:=Tryz.isAgg9
 z9:=Tryz.sizeOf9
 v9:=Tryz.zeroValue9 }
open Go.RowKit in
theorem Tryz.strings_IndexByte (s:ByteArray) (c:Int) (w:World) :
  Calls Tryz.prog 138 #[.string s,.int .u8 c] w fun e w'=>e=.returned (.int .i64 (Lib.indexByte s.data.toList c.toNat.toUInt8))∧w'=w:=Any.strings_IndexByte Tryz.lays137 s c w
def Tryz.lays172_ren:Go.Shelf.Ren:=⟨fun|172=>211|244=>226|245=>227|247=>236|279=>237|280=>238|281=>239|282=>240|287=>249|316=>250|171=>212|205=>251|321=>261|322=>262|243=>228|246=>241|283=>252|284=>253|285=>254|286=>255|129=>164|317=>263|318=>264|319=>265|320=>266|337=>269|338=>270|n=>n,fun|9=>9|3=>3|75=>185|76=>186|4=>4|5=>5|167=>199|37=>191|0=>0|85=>200|2=>2|168=>202|53=>156|175=>210|46=>115|210=>214|127=>221|145=>224|143=>222|21=>21|171=>216|173=>218|212=>226|51=>154|20=>20|213=>227|232=>228|233=>229|80=>230|n=>n,fun|15=>1|16=>2|17=>3|18=>4|19=>5|n=>n⟩
def Tryz.laysM246_ren:Go.Shelf.Ren:=⟨fun|246=>241|283=>252|284=>253|285=>254|286=>255|129=>164|317=>263|318=>264|319=>265|320=>266|337=>269|338=>270|n=>n,fun|2=>2|3=>3|9=>9|4=>4|171=>216|0=>0|53=>156|37=>191|5=>5|173=>218|212=>226|51=>154|20=>20|213=>227|46=>115|232=>228|233=>229|n=>n,fun|17=>3|18=>4|19=>5|n=>n⟩
def Tryz.laysM243_ren:Go.Shelf.Ren:=⟨fun|243=>228|246=>241|283=>252|284=>253|285=>254|286=>255|129=>164|317=>263|318=>264|319=>265|320=>266|337=>269|338=>270|n=>n,fun|3=>3|9=>9|2=>2|4=>4|171=>216|0=>0|53=>156|37=>191|5=>5|173=>218|212=>226|51=>154|20=>20|213=>227|46=>115|232=>228|233=>229|n=>n,fun|17=>3|18=>4|19=>5|n=>n⟩
def Tryz.laysM171_ren:Go.Shelf.Ren:=⟨fun|171=>212|243=>228|246=>241|283=>252|284=>253|285=>254|286=>255|129=>164|317=>263|318=>264|319=>265|320=>266|337=>269|338=>270|n=>n,fun|3=>3|9=>9|2=>2|4=>4|171=>216|0=>0|53=>156|37=>191|5=>5|173=>218|212=>226|51=>154|20=>20|213=>227|46=>115|232=>228|233=>229|n=>n,fun|17=>3|18=>4|19=>5|n=>n⟩
theorem Tryz.laysM171:Go.Proofs.LaysM.n171 Tryz.prog Tryz.laysM171_ren:={
 mixed:=by kernel_rfl
 f129:=Tryz.func164.trans (congrArg some (by kernel_rfl))
 f171:=Tryz.func212.trans (congrArg some (by kernel_rfl))
 f243:=Tryz.func228.trans (congrArg some (by kernel_rfl))
 f246:=Tryz.func241.trans (congrArg some (by kernel_rfl))
 f283:=Tryz.func252.trans (congrArg some (by kernel_rfl))
 f284:=Tryz.func253.trans (congrArg some (by kernel_rfl))
 f285:=Tryz.func254.trans (congrArg some (by kernel_rfl))
 f286:=Tryz.func255.trans (congrArg some (by kernel_rfl))
 f317:=Tryz.func263.trans (congrArg some (by kernel_rfl))
 f318:=Tryz.func264.trans (congrArg some (by kernel_rfl))
 f319:=Tryz.func265.trans (congrArg some (by kernel_rfl))
 f320:=Tryz.func266.trans (congrArg some (by kernel_rfl))
 f337:=Tryz.func269.trans (congrArg some (by kernel_rfl))
 f338:=Tryz.func270.trans (congrArg some (by kernel_rfl))
 t0:=Tryz.underlying0
 a0:=Tryz.isAgg0
 z0:=Tryz.sizeOf0
 v0:=Tryz.zeroValue0
 t2:=Tryz.underlying2
 a2:=Tryz.isAgg2
 z2:=Tryz.sizeOf2
 v2:=Tryz.zeroValue2
 t3:=Tryz.underlying3
 a3:=Tryz.isAgg3
 z3:=Tryz.sizeOf3
 v3:=Tryz.zeroValue3
 t4:=Tryz.underlying4
 a4:=Tryz.isAgg4
 z4:=Tryz.sizeOf4
 v4:=Tryz.zeroValue4
 t5:=Tryz.underlying5
 a5:=Tryz.isAgg5
 z5:=Tryz.sizeOf5
 v5:=Tryz.zeroValue5
 t9:=Tryz.underlying9
 a9:=Tryz.isAgg9
 z9:=Tryz.sizeOf9
 v9:=Tryz.zeroValue9
 t20:=Tryz.underlying20
 a20:=Tryz.isAgg20
 z20:=Tryz.sizeOf20
 v20:=Tryz.zeroValue20
 t37:=Tryz.underlying191
 a37:=Tryz.isAgg191
 z37:=Tryz.sizeOf191
 v37:=Tryz.zeroValue191
 t46:=Tryz.underlying115
 a46:=Tryz.isAgg115
 z46:=Tryz.sizeOf115
 v46:=Tryz.zeroValue115
 t51:=Tryz.underlying154
 a51:=Tryz.isAgg154
 z51:=Tryz.sizeOf154
 v51:=Tryz.zeroValue154
 t53:=Tryz.underlying156
 a53:=Tryz.isAgg156
 z53:=Tryz.sizeOf156
 v53:=Tryz.zeroValue156
 t171:=Tryz.underlying216
 a171:=Tryz.isAgg216
 z171:=Tryz.sizeOf216
 v171:=Tryz.zeroValue216
 t173:=Tryz.underlying218
 a173:=Tryz.isAgg218
 z173:=Tryz.sizeOf218
 v173:=Tryz.zeroValue218
 t212:=Tryz.underlying226
 a212:=Tryz.isAgg226
 z212:=Tryz.sizeOf226
 v212:=Tryz.zeroValue226
 t213:=Tryz.underlying227
 a213:=Tryz.isAgg227
 z213:=Tryz.sizeOf227
 t232:=Tryz.underlying228
 a232:=Tryz.isAgg228
 z232:=Tryz.sizeOf228
 v232:=Tryz.zeroValue228
 t233:=Tryz.underlying229
 a233:=Tryz.isAgg229
 z233:=Tryz.sizeOf229
 v233:=Tryz.zeroValue229
 g17:=by kernel_rfl
 g18:=by kernel_rfl
 g19:=by kernel_rfl
 i0:=by kernel_rfl
 i2:=by kernel_rfl
 i3:=by kernel_rfl
 i4:=by kernel_rfl
 i5:=by kernel_rfl
 i9:=by kernel_rfl
 i20:=by kernel_rfl
 i37:=by kernel_rfl
 i46:=by kernel_rfl
 i51:=by kernel_rfl
 i53:=by kernel_rfl
 i171:=by kernel_rfl
 i173:=by kernel_rfl
 i212:=by kernel_rfl
 i232:=by kernel_rfl
 i233:=by kernel_rfl
 m17:=by kernel_rfl
 m18:=by kernel_rfl
 m19:=by kernel_rfl }
open Go.RowKit Go.Sort Go.Lib in
theorem Tryz.strconv_Itoa (n : Int) (h0 : -9223372036854775808 ≤ n) (h1 : n ≤ 9223372036854775807) (w : World) (htab : Lib.TabIs Tryz.prog w "internal/strconv.uint64pow10" .u64 Lib.pow10Tab) :
  Calls Tryz.prog 212 #[.int .i64 n] w fun e w'=>e=.returned (.string ⟨(Lib.itoa n).toArray⟩)∧∃ k os,w'=grow (w.drewN k) os:=Any.strconv_Itoa Tryz.laysM171 n h0 h1 w htab
def Tryz.laysC172_ren:Go.Shelf.Ren:=⟨fun|172=>211|244=>226|245=>227|247=>236|279=>237|280=>238|281=>239|282=>240|287=>249|316=>250|171=>212|205=>251|321=>261|322=>262|243=>228|246=>241|283=>252|284=>253|285=>254|286=>255|129=>164|317=>263|318=>264|319=>265|320=>266|337=>269|338=>270|n=>n,fun|9=>9|3=>3|75=>185|76=>186|4=>4|5=>5|167=>199|37=>191|0=>0|85=>200|2=>2|168=>202|53=>156|175=>210|46=>115|210=>214|127=>221|145=>224|143=>222|21=>21|171=>216|173=>218|212=>226|51=>154|20=>20|213=>227|232=>228|233=>229|80=>230|n=>n,fun|15=>1|16=>2|17=>3|18=>4|19=>5|n=>n⟩
theorem Tryz.laysC172:Go.Proofs.LaysC.n172 Tryz.prog Tryz.laysC172_ren:={
 mixed:=by kernel_rfl
 f129:=Tryz.func164.trans (congrArg some (by kernel_rfl))
 f171:=Tryz.func212.trans (congrArg some (by kernel_rfl))
 f172:=Tryz.func211.trans (congrArg some (by kernel_rfl))
 f205:=Tryz.func251.trans (congrArg some (by kernel_rfl))
 f243:=Tryz.func228.trans (congrArg some (by kernel_rfl))
 f244:=Tryz.func226.trans (congrArg some (by kernel_rfl))
 f245:=Tryz.func227.trans (congrArg some (by kernel_rfl))
 f246:=Tryz.func241.trans (congrArg some (by kernel_rfl))
 f247:=Tryz.func236.trans (congrArg some (by kernel_rfl))
 f279:=Tryz.func237.trans (congrArg some (by kernel_rfl))
 f280:=Tryz.func238.trans (congrArg some (by kernel_rfl))
 f281:=Tryz.func239.trans (congrArg some (by kernel_rfl))
 f282:=Tryz.func240.trans (congrArg some (by kernel_rfl))
 f283:=Tryz.func252.trans (congrArg some (by kernel_rfl))
 f284:=Tryz.func253.trans (congrArg some (by kernel_rfl))
 f285:=Tryz.func254.trans (congrArg some (by kernel_rfl))
 f286:=Tryz.func255.trans (congrArg some (by kernel_rfl))
 f287:=Tryz.func249.trans (congrArg some (by kernel_rfl))
 f316:=Tryz.func250.trans (congrArg some (by kernel_rfl))
 f317:=Tryz.func263.trans (congrArg some (by kernel_rfl))
 f318:=Tryz.func264.trans (congrArg some (by kernel_rfl))
 f319:=Tryz.func265.trans (congrArg some (by kernel_rfl))
 f320:=Tryz.func266.trans (congrArg some (by kernel_rfl))
 f321:=Tryz.func261.trans (congrArg some (by kernel_rfl))
 f322:=Tryz.func262.trans (congrArg some (by kernel_rfl))
 f337:=Tryz.func269.trans (congrArg some (by kernel_rfl))
 f338:=Tryz.func270.trans (congrArg some (by kernel_rfl))
 t0:=Tryz.underlying0
 a0:=Tryz.isAgg0
 z0:=Tryz.sizeOf0
 v0:=Tryz.zeroValue0
 t2:=Tryz.underlying2
 a2:=Tryz.isAgg2
 z2:=Tryz.sizeOf2
 v2:=Tryz.zeroValue2
 t3:=Tryz.underlying3
 a3:=Tryz.isAgg3
 z3:=Tryz.sizeOf3
 v3:=Tryz.zeroValue3
 t4:=Tryz.underlying4
 a4:=Tryz.isAgg4
 z4:=Tryz.sizeOf4
 v4:=Tryz.zeroValue4
 t5:=Tryz.underlying5
 a5:=Tryz.isAgg5
 z5:=Tryz.sizeOf5
 v5:=Tryz.zeroValue5
 t9:=Tryz.underlying9
 a9:=Tryz.isAgg9
 z9:=Tryz.sizeOf9
 v9:=Tryz.zeroValue9
 t20:=Tryz.underlying20
 a20:=Tryz.isAgg20
 z20:=Tryz.sizeOf20
 v20:=Tryz.zeroValue20
 t21:=Tryz.underlying21
 a21:=Tryz.isAgg21
 z21:=Tryz.sizeOf21
 v21:=Tryz.zeroValue21
 t37:=Tryz.underlying191
 a37:=Tryz.isAgg191
 z37:=Tryz.sizeOf191
 v37:=Tryz.zeroValue191
 t46:=Tryz.underlying115
 a46:=Tryz.isAgg115
 z46:=Tryz.sizeOf115
 v46:=Tryz.zeroValue115
 t51:=Tryz.underlying154
 a51:=Tryz.isAgg154
 z51:=Tryz.sizeOf154
 v51:=Tryz.zeroValue154
 t53:=Tryz.underlying156
 a53:=Tryz.isAgg156
 z53:=Tryz.sizeOf156
 v53:=Tryz.zeroValue156
 t75:=Tryz.underlying185
 a75:=Tryz.isAgg185
 z75:=Tryz.sizeOf185
 v75:=Tryz.zeroValue185
 t76:=Tryz.underlying186
 a76:=Tryz.isAgg186
 z76:=Tryz.sizeOf186
 v76:=Tryz.zeroValue186
 t85:=Tryz.underlying200
 a85:=Tryz.isAgg200
 z85:=Tryz.sizeOf200
 v85:=Tryz.zeroValue200
 t127:=Tryz.underlying221
 a127:=Tryz.isAgg221
 z127:=Tryz.sizeOf221
 v127:=Tryz.zeroValue221
 t143:=Tryz.underlying222
 a143:=Tryz.isAgg222
 z143:=Tryz.sizeOf222
 v143:=Tryz.zeroValue222
 t145:=Tryz.underlying224
 a145:=Tryz.isAgg224
 z145:=Tryz.sizeOf224
 v145:=Tryz.zeroValue224
 t167:=Tryz.underlying199
 a167:=Tryz.isAgg199
 z167:=Tryz.sizeOf199
 v167:=Tryz.zeroValue199
 t168:=Tryz.underlying202
 a168:=Tryz.isAgg202
 z168:=Tryz.sizeOf202
 v168:=Tryz.zeroValue202
 t171:=Tryz.underlying216
 a171:=Tryz.isAgg216
 z171:=Tryz.sizeOf216
 v171:=Tryz.zeroValue216
 t173:=Tryz.underlying218
 a173:=Tryz.isAgg218
 z173:=Tryz.sizeOf218
 v173:=Tryz.zeroValue218
 t175:=Tryz.underlying210
 a175:=Tryz.isAgg210
 z175:=Tryz.sizeOf210
 v175:=Tryz.zeroValue210
 t210:=Tryz.underlying214
 a210:=Tryz.isAgg214
 z210:=Tryz.sizeOf214
 v210:=Tryz.zeroValue214
 t212:=Tryz.underlying226
 a212:=Tryz.isAgg226
 z212:=Tryz.sizeOf226
 v212:=Tryz.zeroValue226
 t213:=Tryz.underlying227
 a213:=Tryz.isAgg227
 z213:=Tryz.sizeOf227
 t232:=Tryz.underlying228
 a232:=Tryz.isAgg228
 z232:=Tryz.sizeOf228
 v232:=Tryz.zeroValue228
 t233:=Tryz.underlying229
 a233:=Tryz.isAgg229
 z233:=Tryz.sizeOf229
 v233:=Tryz.zeroValue229
 g15:=by kernel_rfl
 g16:=by kernel_rfl
 g17:=by kernel_rfl
 g18:=by kernel_rfl
 g19:=by kernel_rfl
 t80:=Tryz.underlying230
 a80:=Tryz.isAgg230
 z80:=Tryz.sizeOf230
 v80:=Tryz.zeroValue230
 i0:=by kernel_rfl
 i2:=by kernel_rfl
 i3:=by kernel_rfl
 i4:=by kernel_rfl
 i5:=by kernel_rfl
 i9:=by kernel_rfl
 i20:=by kernel_rfl
 i21:=by kernel_rfl
 i37:=by kernel_rfl
 i46:=by kernel_rfl
 i51:=by kernel_rfl
 i53:=by kernel_rfl
 i75:=by kernel_rfl
 i76:=by kernel_rfl
 i80:=by kernel_rfl
 i85:=by kernel_rfl
 i127:=by kernel_rfl
 i143:=by kernel_rfl
 i145:=by kernel_rfl
 i167:=by kernel_rfl
 i168:=by kernel_rfl
 i171:=by kernel_rfl
 i173:=by kernel_rfl
 i175:=by kernel_rfl
 i210:=by kernel_rfl
 i212:=by kernel_rfl
 i232:=by kernel_rfl
 i233:=by kernel_rfl
 m15:=by kernel_rfl
 m16:=by kernel_rfl
 m17:=by kernel_rfl
 m18:=by kernel_rfl
 m19:=by kernel_rfl
 c0:=by kernel_rfl
 c2:=by kernel_rfl
 c3:=by kernel_rfl
 c4:=by kernel_rfl
 c5:=by kernel_rfl
 c9:=by kernel_rfl
 c20:=by kernel_rfl
 c21:=by kernel_rfl
 c37:=by kernel_rfl
 c46:=by kernel_rfl
 c51:=by kernel_rfl
 c53:=by kernel_rfl
 c75:=by kernel_rfl
 c76:=by kernel_rfl
 c80:=by kernel_rfl
 c85:=by kernel_rfl
 c127:=by kernel_rfl
 c143:=by kernel_rfl
 c145:=by kernel_rfl
 c167:=by kernel_rfl
 c168:=by kernel_rfl
 c171:=by kernel_rfl
 c173:=by kernel_rfl
 c175:=by kernel_rfl
 c210:=by kernel_rfl
 c212:=by kernel_rfl
 c213:=by kernel_rfl
 c232:=by kernel_rfl
 c233:=by kernel_rfl }
open Go.RowKit in
theorem Tryz.strconv_Atoi_ok (s:ByteArray) (hmax:s.size≤9223372036854775806) (v:Int) (h:Lib.atoiAll s.data.toList=.ok v) (w:World) :
  Calls Tryz.prog 211 #[.string s] w fun e w'=>e=.returned (.tuple #[.int .i64 v,.nilIface])∧(w'=w∨∃ t,w'=Lib.bytesWorld w 5 t):=Any.strconv_Atoi_ok Tryz.laysC172 s hmax v h w
open Go.RowKit in
theorem Tryz.strconv_Atoi_syntax (s:ByteArray) (hlim:s.size≤281474976710656) (h:(∀ v,Lib.atoiAll s.data.toList≠.ok v)∧Lib.atoiAll s.data.toList≠.range) (ev:Value) (w:World) (hv:w.cell? ⟨1,0,none⟩=some ev) (hev:ev=.nilIface∨∃ te pe,ev=.iface te pe) :
  Calls Tryz.prog 211 #[.string s] w fun e w'=>∃ N,e=.returned (.tuple #[.int .i64 (0),.iface 202 (.pointer (some ⟨N,0,none⟩))])∧w.heap.size≤N∧w'.heap[N]?=some (.cells #[.string ⟨#[65,116,111,105]⟩,.string s,ev] 214 (0,0))∧Below w.heap.size w w':=Any.strconv_Atoi_syntax Tryz.laysC172 s hlim (by cases hx:Lib.atoiAll s.data.toList<;>simp_all) ev w hv hev
open Go.RowKit in
theorem Tryz.strconv_Atoi_range (s:ByteArray) (hlim:s.size≤281474976710656) (h:Lib.atoiAll s.data.toList=.range) (ev:Value) (w:World) (hv:w.cell? ⟨2,0,none⟩=some ev) (hev:ev=.nilIface∨∃ te pe,ev=.iface te pe) :
  Calls Tryz.prog 211 #[.string s] w fun e w'=>∃ N,e=.returned (.tuple #[.int .i64 (Lib.atoiSat s.data.toList),.iface 202 (.pointer (some ⟨N,0,none⟩))])∧w.heap.size≤N∧w'.heap[N]?=some (.cells #[.string ⟨#[65,116,111,105]⟩,.string s,ev] 214 (0,0))∧Below w.heap.size w w':=Any.strconv_Atoi_range Tryz.laysC172 s hlim h ev w hv hev
def Tryz.lays219_ren:Go.Shelf.Ren:=⟨fun|219=>220|217=>193|225=>233|224=>234|267=>235|266=>219|314=>248|n=>n,fun|9=>9|3=>3|4=>4|5=>5|46=>115|146=>208|51=>154|n=>n,fun|1=>0|n=>n⟩
def Tryz.lays144_ren:Go.Shelf.Ren:=⟨fun|144=>139|143=>194|219=>220|217=>193|225=>233|224=>234|267=>235|266=>219|314=>248|n=>n,fun|9=>9|4=>4|3=>3|5=>5|46=>115|146=>208|51=>154|n=>n,fun|1=>0|n=>n⟩
theorem Tryz.lays144:Go.Proofs.Lays.n144 Tryz.prog Tryz.lays144_ren:={
 mixed:=by kernel_rfl
 f143:=Tryz.func194.trans (congrArg some (by kernel_rfl))
 f144:=Tryz.func139.trans (congrArg some (by kernel_rfl))
 f217:=Tryz.func193.trans (congrArg some (by kernel_rfl))
 f219:=Tryz.func220.trans (congrArg some (by kernel_rfl))
 f224:=Tryz.func234.trans (congrArg some (by kernel_rfl))
 f225:=Tryz.func233.trans (congrArg some (by kernel_rfl))
 f266:=Tryz.func219.trans (congrArg some (by kernel_rfl))
 f267:=Tryz.func235.trans (congrArg some (by kernel_rfl))
 f314:=Tryz.func248.trans (congrArg some (by kernel_rfl))
 t3:=Tryz.underlying3
 a3:=Tryz.isAgg3
 z3:=Tryz.sizeOf3
 v3:=Tryz.zeroValue3
 t4:=Tryz.underlying4
 a4:=Tryz.isAgg4
 z4:=Tryz.sizeOf4
 v4:=Tryz.zeroValue4
 t5:=Tryz.underlying5
 a5:=Tryz.isAgg5
 z5:=Tryz.sizeOf5
 v5:=Tryz.zeroValue5
 t9:=Tryz.underlying9
 a9:=Tryz.isAgg9
 z9:=Tryz.sizeOf9
 v9:=Tryz.zeroValue9
 t46:=Tryz.underlying115
 a46:=Tryz.isAgg115
 z46:=Tryz.sizeOf115
 v46:=Tryz.zeroValue115
 t51:=Tryz.underlying154
 a51:=Tryz.isAgg154
 z51:=Tryz.sizeOf154
 v51:=Tryz.zeroValue154
 t146:=Tryz.underlying208
 a146:=Tryz.isAgg208
 z146:=Tryz.sizeOf208
 v146:=Tryz.zeroValue208
 g1:=by kernel_rfl }
open Go.RowKit Go.Lib in
theorem Tryz.strings_Contains (s sub:ByteArray) (m:Int) (w:World) (hs:s.size<4294967281) (hm:w.cell? ⟨0,0,none⟩=some (.int .i64 m)) :
  Calls Tryz.prog 139 #[.string s,.string sub] w fun e w'=>e=.returned (.bool (Lib.contains s.data.toList sub.data.toList))∧w'=w:=Any.strings_Contains Tryz.lays144 s sub m w hs hm
end Go.Proofs
namespace Go.Proofs.YtojjkleplnijaaaGreatDoor
open Go.AE Go.RowKit
set_option maxRecDepth 100000
theorem w64 {n:Int} (h:-9223372036854775808≤n∧n≤9223372036854775807):IntKind.i64.wrap n=n:=by rw [IntKind.wrap_i64];omega
abbrev AC:=List AV→List ABlk→(AO→List ABlk→Prop)→Prop
def gput (f:FuncId) (c:AC) (G:AG):AG:=fun g=>match Nat.beq g f with
 | true=>some c
 | false=>G g
def g0:AG:=fun _=>none
def COk (f:FuncId) (c:AC):Prop:=∀ args K k,c args K k→ACalls Tryz.prog f args K k
theorem g0_ok:GOk Tryz.prog g0:=fun f g h=>by simp [g0] at h
theorem gput_ok {f:FuncId} {c:AC} {G:AG} (hc:COk f c) (hG:GOk Tryz.prog G):GOk Tryz.prog (gput f c G):=fun h g hg=>by
 unfold gput at hg
 split at hg
 ·rename_i e
  have:=Nat.eq_of_beq_eq_true e
  subst this
  injection hg with hg
  subst hg
  exact hc
 ·exact hG h g hg
theorem call_ok {G:AG} (hG:GOk Tryz.prog G) (n:Nat) (f:FuncId) (args:List AV) (K:List ABlk) (k:AO→List ABlk→Prop) (h:acall1 T0 G n f args K k):ACalls Tryz.prog f args K k :=
 acall1_ok tabOk (Checked.mixed Tryz.checked) hG n f args K k h
theorem ACalls.lib {f:FuncId} {args:List AV} {K:List ABlk} {k:AO→List ABlk→Prop} (he:Ent Tryz.prog f)
  (h:∀ w m Args,St w m (hp K)→VL w m args Args→Calls Tryz.prog f Args w fun e w'=>∃ v u,e=.returned u∧Below w.heap.size w w'∧V w' m v u∧k (.ret v) K):ACalls Tryz.prog f args K k :=
 ⟨he,fun w m Args hS hV=>(h w m Args hS hV).mono fun e w' ⟨v,u,h1,h2,h3,h4⟩=>by
  subst h1
  exact⟨m,v,K,Tr.below hS.Ilt h2,hS.below h2,h3,h4⟩⟩
theorem ent {f:FuncId} {fn:Func} (h:Tf.get f=some fn) (hb:fn.body.isSome=true):Ent Tryz.prog f:=by
 obtain⟨h1,h2⟩:=tabOk.f f fn h
 exact⟨fn,h1,h2,hb⟩
theorem vl1 {w:World} {m:Mp} {a:AV} {A:Array Value} (h:VL w m [a] A):∃ u,A=#[u]∧V w m a u:=by
 obtain⟨h1,h2⟩:=h
 have hs:A.size=1:=h1.symm
 refine⟨A[0],?_,h2 0 (by simp) (by omega)⟩
 apply Array.ext
 ·simp [hs]
 ·intro i hi hi'
  have:i=0:=by simp at hi';omega
  subst this;rfl
theorem vl2 {w:World} {m:Mp} {a b:AV} {A:Array Value} (h:VL w m [a,b] A):∃ u v,A=#[u,v]∧V w m a u∧V w m b v:=by
 obtain⟨h1,h2⟩:=h
 have hs:A.size=2:=h1.symm
 refine⟨A[0],A[1],?_,h2 0 (by simp) (by omega),h2 1 (by simp) (by omega)⟩
 apply Array.ext
 ·simp [hs]
 ·intro i hi hi'
  have:i=0∨i=1:=by simp at hi';omega
  rcases this with rfl|rfl<;>rfl
theorem v_str {w:World} {m:Mp} {l:List UInt8} {u:Value} (h:V w m (.p (.str l)) u):∃ s:ByteArray,u=.string s∧s.data.toList=l:=by
 cases h with
 | p _ _ h=>cases h with
  | str s l hl=>exact⟨s,rfl,hl⟩
theorem v_int {w:World} {m:Mp} {q:IntKind} {n:Int} {u:Value} (h:V w m (.p (.int q n)) u):u=.int q n:=by
 cases h with
 | p _ _ h=>cases h;rfl
theorem size_of {s:ByteArray} {l:List UInt8} (h:s.data.toList=l):s.size=l.length:=by
 subst h;exact Array.length_toList.symm
theorem below_same (w:World):Below w.heap.size w w:=Below.refl _ _
def cIndexByte:AC:=fun args K k=>∃ l c,args=[.p (.str l),.p (.int .u8 c)]∧k (.ret (.p (.int .i64 (Lib.indexByte l c.toNat.toUInt8)))) K
theorem indexByte_ok:COk 138 cIndexByte:=by
 rintro args K k ⟨l,c,rfl,hk⟩
 refine ACalls.lib (ent rfl rfl) fun w m Args hS hV=>?_
 obtain⟨u,v,rfl,h1,h2⟩:=vl2 hV
 obtain⟨s,rfl,rfl⟩:=v_str h1
 obtain rfl:=v_int h2
 exact (Tryz.strings_IndexByte s c w).mono fun e w' ⟨h3,h4⟩=>⟨_,_,h3,by rw [h4];exact below_same w,.p _ _ (.int ..),hk⟩
def cContains:AC:=fun args K k=>∃ a b,args=[.p (.str a),.p (.str b)]∧a.length<4294967281∧k (.ret (.p (.bool (Lib.contains a b)))) K
theorem contains_ok:COk 139 cContains:=by
 rintro args K k ⟨a,b,rfl,hl,hk⟩
 refine ACalls.lib (ent rfl rfl) fun w m Args hS hV=>?_
 obtain⟨u,v,rfl,h1,h2⟩:=vl2 hV
 obtain⟨s,rfl,rfl⟩:=v_str h1
 obtain⟨t,rfl,rfl⟩:=v_str h2
 obtain⟨n,hn⟩:=hS.gl.facts.maxLen
 exact (Tryz.strings_Contains s t n w (by rw [size_of rfl];exact hl) hn).mono fun e w' ⟨h3,h4⟩=>⟨_,_,h3,by rw [h4];exact below_same w,.p _ _ (.bool ..),hk⟩
def atoiV:Lib.NumEnd Int→List UInt8→AV
 | .ok v,_=>.tup [.p (.int .i64 v),.p .nili]
 | .range,l=>.tup [.p (.int .i64 (Lib.atoiSat l)),.iface 202 .junk]
 | _,_=>.tup [.p (.int .i64 0),.iface 202 .junk]
def cAtoi:AC:=fun args K k=>∃ l,args=[.p (.str l)]∧l.length<1000000∧k (.ret (atoiV (Lib.atoiAll l) l)) K
theorem tup2 {w:World} {m:Mp} {a b:AV} {u v:Value} (h1:V w m a u) (h2:V w m b v):V w m (.tup [a,b]) (.tuple #[u,v]) :=
 .tup _ _ rfl fun j hj hj'=>by
  rcases j with _|_|j
  ·exact h1
  ·exact h2
  ·simp at hj;omega
theorem atoi_ok:COk 211 cAtoi:=by
 rintro args K k ⟨l,rfl,hl,hk⟩
 refine ACalls.lib (ent rfl rfl) fun w m Args hS hV=>?_
 obtain⟨u,rfl,h1⟩:=vl1 hV
 obtain⟨s,rfl,rfl⟩:=v_str h1
 have hs:=size_of (s:=s) rfl
 cases ha:Lib.atoiAll s.data.toList with
 | ok v =>
  rw [ha] at hk
  refine (Tryz.strconv_Atoi_ok s (by omega) v ha w).mono fun e w' ⟨h3,h4⟩=>⟨_,_,h3,?_,tup2 (.p _ _ (.int ..)) (.p _ _ .nili),hk⟩
  rcases h4 with rfl|⟨t,rfl⟩
  ·exact below_same _
  ·exact bytesWorld_below _ _ _
 | range =>
  rw [ha] at hk
  obtain⟨ev,h5,h6⟩:=hS.gl.facts.errRange
  exact (Tryz.strconv_Atoi_range s (by omega) ha ev w h5 h6).mono fun e w' ⟨N,h3,_,_,h4⟩=>⟨_,_,h3,h4,tup2 (.p _ _ (.int ..)) (.iface _ _ _ (.junk _)),hk⟩
 | _ =>
  rw [ha] at hk
  obtain⟨ev,h5,h6⟩:=hS.gl.facts.errSyntax
  exact (Tryz.strconv_Atoi_syntax s (by omega) ⟨fun v e=>(by rw [ha] at e;cases e),fun e=>(by rw [ha] at e;cases e)⟩ ev w h5 h6).mono fun e w' ⟨N,h3,_,_,h4⟩=>⟨_,_,h3,h4,tup2 (.p _ _ (.int ..)) (.iface _ _ _ (.junk _)),hk⟩
theorem grow_below (w:World) (n:Nat) (os:Array Obj):Below w.heap.size w (Sort.grow (w.drewN n) os) :=
 ⟨rfl,rfl,rfl,by simp [Sort.grow],fun j hj=>by simp [Sort.grow,Array.getElem?_append,hj]⟩
def cItoa:AC:=fun args K k=>∃ n,args=[.p (.int .i64 n)]∧-9223372036854775808≤n∧n≤9223372036854775807∧k (.ret (.p (.str (Lib.itoa n)))) K
theorem itoa_ok:COk 212 cItoa:=by
 rintro args K k ⟨n,rfl,h0,h1,hk⟩
 refine ACalls.lib (ent rfl rfl) fun w m Args hS hV=>?_
 obtain⟨u,rfl,h2⟩:=vl1 hV
 obtain rfl:=v_int h2
 exact (Tryz.strconv_Itoa n h0 h1 w hS.gl.facts.pow10).mono fun e w' ⟨h3,j,os,h4⟩=>⟨_,_,h3,by rw [h4];exact grow_below w j os,.p _ _ (.str _ _ rfl),hk⟩
end Go.Proofs.YtojjkleplnijaaaGreatDoor
namespace Go.Proofs.YtojjkleplnijaaaGreatDoor
open Go.AE Go.Ru
set_option maxRecDepth 100000
def gL:AG:=gput 138 cIndexByte (gput 139 cContains (gput 211 cAtoi (gput 212 cItoa g0)))
theorem gL_ok:GOk Tryz.prog gL:=gput_ok indexByte_ok (gput_ok contains_ok (gput_ok atoi_ok (gput_ok itoa_ok g0_ok)))
theorem frame0P {G:AG} (hG:GOk Tryz.prog G) (n:Nat) {f:FuncId} {args:List AV} {X:List ABlk} {k:AO→List ABlk→Prop} (hcl:AV.cls 0 args=true)
  (h:∀ Q:AO→List ABlk→Prop,(∀ v K',v.cl 0=true→k (.ret v) X→Q (.ret v) K')→acall1 T0 G n f args [] Q):ACalls Tryz.prog f args X k:=by
 refine (ACalls.frame (K0:=[]) (X:=X) (k:=fun ao K1=>k ao (K1++X)) hcl (fun r h=>by simp at h) (call_ok hG n f args [] _ (h _ ?_))).mono fun ao K ⟨K1,h1,h2⟩=>by subst h1;exact h2
 intro v K' h1 h2
 refine⟨h1,by simp,fun r hr=>by simp at hr,?_⟩
 show k (.ret v) (takeN K' 0++X)
 rw [takeN_zero];exact h2
def cKept:AC:=fun args K k=>∃ l,args=[.p (.str l)]∧l.length<1000000∧k (.ret (.p (.bool (keptP l)))) K
theorem kept_ok:COk 192 cKept:=by
 rintro args K k ⟨l,rfl,hl,hk⟩
 refine frame0P gL_ok 19 rfl fun Q hr=>?_
 conv=>whnf
 refine two_intro (fun h=>?_) (fun h=>?_)
 ·have h:(!(l==[]))=true:=h
  conv=>whnf
  refine⟨_,_,rfl,?_⟩
  conv=>whnf
  refine two_intro (fun h2=>?_) (fun h2=>?_)
  ·have h2:decide (Lib.indexByte l 32<0)=true:=h2
   conv=>whnf
   refine⟨?_,?_⟩
   ·show 1+l.length≤_
    omega
   conv=>whnf
   refine⟨?_,?_⟩
   ·show ([32]++l).length+1≤_
    simp only [List.length_append,List.length_cons,List.length_nil];omega
   conv=>whnf
   refine⟨_,_,rfl,by decide,?_⟩
   conv=>whnf
   simp only [keptP,h,h2,Bool.true_and] at hk
   exact hr _ _ rfl hk
  ·have h2:decide (Lib.indexByte l 32<0)=false:=h2
   conv=>whnf
   simp only [keptP,h,h2,Bool.false_and,Bool.and_false] at hk
   exact hr _ _ rfl hk
 ·have h:(!(l==[]))=false:=h
  conv=>whnf
  simp only [keptP,h,Bool.false_and] at hk
  exact hr _ _ rfl hk
theorem u8n (c:UInt8):((c.toNat:Int)).toNat.toUInt8=c:=by simp
theorem u8b (l:List UInt8) (i:Nat):(byteAt l i).toNat.toUInt8=l.getD i 0:=u8n _
def cOnly:AC:=fun args K k=>∃ l m,args=[.p (.str l),.p (.str m)]∧l.length<1000000∧k (.ret (.p (.bool (l.all (inB m))))) K
theorem only_ok:COk 191 cOnly:=by
 rintro args K k ⟨l,m,rfl,hl,hk⟩
 refine frame0P gL_ok 19 rfl fun Q hr=>?_
 conv=>whnf
 refine⟨by omega,?_⟩
 conv=>whnf
 refine loop_by (ι:=Nat) (fun i=>⟨[(8,.p (.int .i64 i)),(7,.p (.int .i64 l.length)),(0,.p (.sl 1 l.length (byteF l))),(1,.fn 218 [] [.ptr 0 0 1 0 0])],[.box 9 [.p (.str m)]]⟩)
  (fun i=>i≤l.length∧(l.take i).all (inB m)=true) (fun i=>l.length - i) 0 ⟨AV.le_refl _,AV.le_refl _,AV.le_refl _,AV.le_refl _,trivial⟩ (lesK.refl _) ⟨by omega,rfl⟩ ?_
 intro Y hle i ⟨hi,ha⟩ ih
 conv=>whnf
 refine two_intro (fun h=>?_) (fun h=>?_)
 ·have h:i<l.length:=by simpa using h
  conv=>whnf
  refine⟨⟨by omega,by omega,rfl⟩,?_⟩
  conv=>whnf
  refine⟨_,_,rfl,?_⟩
  have hi2:((i:Int)).toNat=i:=by omega
  have hc:((l.getD (Int.toNat i) 0).toNat:Int).toNat.toUInt8=l[i]:=by
   rw [u8n,hi2,List.getD_eq_getElem?_getD,List.getElem?_eq_getElem h];rfl
  conv=>whnf
  have hb:decide (Lib.indexByte m (((l.getD (Int.toNat i) 0).toNat:Int).toNat.toUInt8)<0)=!inB m l[i]:=by
   rw [hc];simp only [inB]
   by_cases hx:Lib.indexByte m l[i]<0
   ·simp [hx]<;>omega
   ·simp [hx]<;>omega
  refine two_intro (fun h2=>?_) (fun h2=>?_)
  ·rw [hb] at h2
   have h2:inB m l[i]=false:=by simpa using h2
   have he:l.all (inB m)=false:=by
    rw [List.all_eq_false];exact⟨l[i],by simp,by simp [h2]⟩
   conv=>whnf
   rw [he] at hk
   have:(decide ((i:Int)≥0))=true:=by simp
   rw [this]
   exact hr _ _ rfl hk
  ·rw [hb] at h2
   have h2:inB m l[i]=true:=by simpa using h2
   conv=>whnf
   refine hle _ _ (Le.env ?_ (lesK.refl _)) (ih (i+1) (by omega) ⟨by omega,?_⟩)
   ·refine⟨AV.le_of_eq ?_,AV.le_refl _,AV.le_refl _,AV.le_refl _,trivial⟩
    show AV.p (.int .i64 (IntKind.i64.wrap ((i:Int)+1)))=.p (.int .i64 ((i+1:Nat):Int))
    rw [w64 (by omega)];rfl
   ·rw [List.take_succ_eq_append_getElem h,List.all_append,ha];simp [h2]
 ·have h:¬ i<l.length:=by simpa using h
  obtain rfl:i=l.length:=by omega
  rw [List.take_length] at ha
  conv=>whnf
  rw [ha] at hk
  exact hr _ _ rfl hk
def cIdentT:AC:=fun args K k=>∃ l,args=[.p (.str l)]∧l.length<1000000∧k (.ret (.p (.bool (identP l)))) K
def gK:AG:=gput 192 cKept (gput 191 cOnly gL)
theorem gK_ok:GOk Tryz.prog gK:=gput_ok kept_ok (gput_ok only_ok gL_ok)
theorem identT_ok:COk 137 cIdentT:=by
 rintro args K k ⟨l,rfl,hl,hk⟩
 refine frame0P gK_ok 19 rfl fun Q hr=>?_
 conv=>whnf
 refine two_intro (fun h=>?_) (fun h=>?_)
 ·have h:(!(l==[]))=true:=h
  conv=>whnf
  refine two_intro (fun h2=>?_) (fun h2=>?_)
  ·have h2:decide (l.length≤20)=true:=decide_eq_true (by have:=of_decide_eq_true h2;omega)
   conv=>whnf
   refine⟨_,_,rfl,hl,?_⟩
   conv=>whnf
   refine two_intro (fun h3=>?_) (fun h3=>?_)
   ·have h3:l.all (inB partsT)=true:=h3
    have hl0:0<l.length:=by
     cases l with
     | nil=>simp at h
     | cons a r=>simp
    conv=>whnf
    refine⟨⟨by omega,by omega⟩,?_⟩
    conv=>whnf
    refine⟨_,_,rfl,?_⟩
    conv=>whnf
    refine two_intro (fun h4=>?_) (fun h4=>?_)
    ·rw [u8b] at h4
     have h4:decide (Lib.indexByte digitsT (l.getD 0 0)<0)=true:=h4
     conv=>whnf
     refine⟨_,rfl,hl,?_⟩
     conv=>whnf
     simp only [identP,h,h2,h3,h4,Bool.true_and] at hk
     exact hr _ _ rfl hk
    ·rw [u8b] at h4
     have h4:decide (Lib.indexByte digitsT (l.getD 0 0)<0)=false:=h4
     conv=>whnf
     simp only [identP,h,h2,h3,h4,Bool.true_and,Bool.false_and] at hk
     exact hr _ _ rfl hk
   ·have h3:l.all (inB partsT)=false:=h3
    conv=>whnf
    simp only [identP,h,h2,h3,Bool.true_and,Bool.false_and] at hk
    exact hr _ _ rfl hk
  ·have h2:decide (l.length≤20)=false:=decide_eq_false (by have:=of_decide_eq_false h2;omega)
   conv=>whnf
   simp only [identP,h,h2,Bool.true_and,Bool.false_and] at hk
   exact hr _ _ rfl hk
 ·have h:(!(l==[]))=false:=h
  conv=>whnf
  simp only [identP,h,Bool.false_and] at hk
  exact hr _ _ rfl hk
def tkV (k n a:Int) (l:Bs):AV:=.agg [.p (.int .i64 k),.p (.int .i64 n),.p (.int .i64 a),.p (.str l)]
def wordV (l:Bs) (a:Int):Option (TK×Int)→AV
 | some (k,v)=>.tup [tkV k.code v a l,.p (.bool true)]
 | none=>.tup [tkV 0 0 a l,.p (.bool false)]
def cWordT:AC:=fun args K k=>∃ l a,args=[.p (.str l),.p (.int .i64 a)]∧l.length<1000000∧k (.ret (wordV l a (wordP l))) K
def gI:AG:=gput 137 cIdentT gK
theorem gI_ok:GOk Tryz.prog gI:=gput_ok identT_ok gK_ok
theorem wordT_ok:COk 178 cWordT:=by
 rintro args K k ⟨l,a,rfl,hl,hk⟩
 refine frame0P gI_ok 19 rfl fun Q hr=>?_
 conv=>whnf
 refine⟨_,rfl,hl,?_⟩
 have kw:keptP l=true→k (.ret (.tup [tkV 4 0 a l,.p (.bool true)])) K:=fun h=>by simp only [wordP,h] at hk;exact hk
 have ki:keptP l=false→identP l=true→k (.ret (.tup [tkV 1 0 a l,.p (.bool true)])) K:=fun h h2=>by simp only [wordP,h,h2] at hk;exact hk
 cases ha:Lib.atoiAll l with
 | ok v =>
  obtain⟨hv0,hv1⟩:=Lib.atoiAll_bounds ha
  conv=>whnf
  refine⟨_,rfl,hl,?_⟩
  conv=>whnf
  refine two_intro (fun h=>?_) (fun h=>?_)
  ·have hk:=kw h
   conv=>whnf
   repeat ((refine And.intro ?_ ?_);(focus ((conv=>whnf);done));conv=>whnf)
   exact hr _ _ rfl hk
  ·have h:keptP l=false:=h
   conv=>whnf
   refine⟨_,rfl,hl,?_⟩
   conv=>whnf
   refine two_intro (fun h2=>?_) (fun h2=>?_)
   ·have hk:=ki h h2
    conv=>whnf
    repeat ((refine And.intro ?_ ?_);(focus ((conv=>whnf);done));conv=>whnf)
    exact hr _ _ rfl hk
   ·have h2:identP l=false:=h2
    conv=>whnf
    refine⟨_,rfl,by omega,by omega,?_⟩
    conv=>whnf
    refine two_intro (fun h3=>?_) (fun h3=>?_)
    ·have h3:Lib.itoa v=l:=by simpa using h3
     simp only [wordP,h,h2,numP,ha,if_pos h3] at hk
     conv=>whnf
     repeat ((refine And.intro ?_ ?_);(focus ((conv=>whnf);done));conv=>whnf)
     exact hr _ _ rfl hk
    ·have h3:¬ Lib.itoa v=l:=by simpa using h3
     simp only [wordP,h,h2,numP,ha,if_neg h3] at hk
     conv=>whnf
     repeat ((refine And.intro ?_ ?_);(focus ((conv=>whnf);done));conv=>whnf)
     exact hr _ _ rfl hk
 | range =>
  conv=>whnf
  refine⟨_,rfl,hl,?_⟩
  conv=>whnf
  refine two_intro (fun h=>?_) (fun h=>?_)
  ·have hk:=kw h
   conv=>whnf
   repeat ((refine And.intro ?_ ?_);(focus ((conv=>whnf);done));conv=>whnf)
   exact hr _ _ rfl hk
  ·have h:keptP l=false:=h
   conv=>whnf
   refine⟨_,rfl,hl,?_⟩
   conv=>whnf
   refine two_intro (fun h2=>?_) (fun h2=>?_)
   ·have hk:=ki h h2
    conv=>whnf
    repeat ((refine And.intro ?_ ?_);(focus ((conv=>whnf);done));conv=>whnf)
    exact hr _ _ rfl hk
   ·have h2:identP l=false:=h2
    simp only [wordP,h,h2,numP,ha] at hk
    conv=>whnf
    repeat ((refine And.intro ?_ ?_);(focus ((conv=>whnf);done));conv=>whnf)
    exact hr _ _ rfl hk
 | _ =>
  conv=>whnf
  refine⟨_,rfl,hl,?_⟩
  conv=>whnf
  refine two_intro (fun h=>?_) (fun h=>?_)
  ·have hk:=kw h
   conv=>whnf
   repeat ((refine And.intro ?_ ?_);(focus ((conv=>whnf);done));conv=>whnf)
   exact hr _ _ rfl hk
  ·have h:keptP l=false:=h
   conv=>whnf
   refine⟨_,rfl,hl,?_⟩
   conv=>whnf
   refine two_intro (fun h2=>?_) (fun h2=>?_)
   ·have hk:=ki h h2
    conv=>whnf
    repeat ((refine And.intro ?_ ?_);(focus ((conv=>whnf);done));conv=>whnf)
    exact hr _ _ rfl hk
   ·have h2:identP l=false:=h2
    simp only [wordP,h,h2,numP,ha] at hk
    conv=>whnf
    repeat ((refine And.intro ?_ ?_);(focus ((conv=>whnf);done));conv=>whnf)
    exact hr _ _ rfl hk
theorem bne_byte (l:List UInt8) (i:Nat):(byteAt l i != 32)=!(l.getD i 0==32):=by
 show (!(((l.getD i 0).toNat:Int)==32))=_
 congr 1
 rw [Bool.eq_iff_iff]
 simp only [beq_iff_eq]
 constructor
 ·intro h
  exact UInt8.toNat_inj.1 (by show (l.getD i 0).toNat=32;omega)
 ·intro h;rw [h];rfl
def cSignT:AC:=fun args K k=>∃ l,args=[.p (.str l)]∧0<l.length∧l.length<1000000∧k (.ret (.p (.int .i64 (signP l:Nat)))) K
theorem signT_ok:COk 179 cSignT:=by
 rintro args K k ⟨l,rfl,hl0,hl,hk⟩
 refine frame0P gL_ok 19 rfl fun Q hr=>?_
 conv=>whnf
 have hd1:decide ((l.length:Int)>1)=decide (l.length>1):=by
  by_cases h:l.length>1
  ·rw [decide_eq_true h,decide_eq_true (by omega)]
  ·rw [decide_eq_false h,decide_eq_false (by omega)]
 refine two_intro (fun h=>?_) (fun h=>?_)
 ·rw [hd1] at h
  have h1:=of_decide_eq_true h
  conv=>whnf
  refine⟨⟨by omega,by omega⟩,?_⟩
  conv=>whnf
  refine two_intro (fun h2=>?_) (fun h2=>?_)
  ·have h2:(!(l.getD 0 0==32))=true:=by rw [← bne_byte];exact h2
   conv=>whnf
   refine⟨⟨by omega,by omega⟩,?_⟩
   conv=>whnf
   refine two_intro (fun h3=>?_) (fun h3=>?_)
   ·have h3:(!(l.getD 1 0==32))=true:=by rw [← bne_byte];exact h3
    conv=>whnf
    refine⟨⟨by decide,by decide,by omega⟩,?_⟩
    conv=>whnf
    refine⟨?_,?_⟩
    ·show 1+(l.take 2).length≤_
     simp only [List.length_take];omega
    conv=>whnf
    refine⟨?_,?_⟩
    ·show ([32]++l.take 2).length+1≤_
     simp only [List.length_append,List.length_cons,List.length_nil,List.length_take];omega
    conv=>whnf
    refine⟨_,_,rfl,by decide,?_⟩
    conv=>whnf
    refine two_intro (fun h4=>?_) (fun h4=>?_)
    ·have h4:Lib.contains pairsT ([32]++l.take 2++[32])=true:=h4
     have hp:pairP l=true:=by simp only [pairP,h,h2,h3,h4,Bool.and_true]
     simp only [signP,if_pos hp] at hk
     conv=>whnf
     exact hr _ _ rfl hk
    ·have h4:Lib.contains pairsT ([32]++l.take 2++[32])=false:=h4
     have hp:¬ pairP l=true:=by simp only [pairP,h,h2,h3,h4,Bool.and_false];simp
     simp only [signP,if_neg hp] at hk
     conv=>whnf
     refine⟨⟨by omega,by omega⟩,?_⟩
     conv=>whnf
     refine⟨_,_,rfl,?_⟩
     conv=>whnf
     have hb:decide (Lib.indexByte singleT ((byteAt l (Int.toNat 0)).toNat.toUInt8)≥0)=inB singleT (l.getD 0 0):=by rw [u8b];rfl
     refine two_intro (fun h5=>?_) (fun h5=>?_)
     ·have h5:inB singleT (l.getD 0 0)=true:=by rw [← hb];exact h5
      conv=>whnf
      rw [if_pos h5] at hk
      exact hr _ _ rfl hk
     ·have h5:inB singleT (l.getD 0 0)=false:=by rw [← hb];exact h5
      conv=>whnf
      rw [if_neg (by rw [h5];exact Bool.false_ne_true)] at hk
      exact hr _ _ rfl hk
   ·have h3:(!(l.getD 1 0==32))=false:=by rw [← bne_byte];exact h3
    have hp:¬ pairP l=true:=by simp only [pairP,h,h2,h3,Bool.and_false,Bool.false_and];simp
    simp only [signP,if_neg hp] at hk
    conv=>whnf
    refine⟨⟨by omega,by omega⟩,?_⟩
    conv=>whnf
    refine⟨_,_,rfl,?_⟩
    conv=>whnf
    have hb:decide (Lib.indexByte singleT ((byteAt l (Int.toNat 0)).toNat.toUInt8)≥0)=inB singleT (l.getD 0 0):=by rw [u8b];rfl
    refine two_intro (fun h5=>?_) (fun h5=>?_)
    ·have h5:inB singleT (l.getD 0 0)=true:=by rw [← hb];exact h5
     conv=>whnf
     rw [if_pos h5] at hk
     exact hr _ _ rfl hk
    ·have h5:inB singleT (l.getD 0 0)=false:=by rw [← hb];exact h5
     conv=>whnf
     rw [if_neg (by rw [h5];exact Bool.false_ne_true)] at hk
     exact hr _ _ rfl hk
  ·have h2:(!(l.getD 0 0==32))=false:=by rw [← bne_byte];exact h2
   have hp:¬ pairP l=true:=by simp only [pairP,h,h2,Bool.and_false,Bool.false_and];simp
   simp only [signP,if_neg hp] at hk
   conv=>whnf
   refine⟨⟨by omega,by omega⟩,?_⟩
   conv=>whnf
   refine⟨_,_,rfl,?_⟩
   conv=>whnf
   have hb:decide (Lib.indexByte singleT ((byteAt l (Int.toNat 0)).toNat.toUInt8)≥0)=inB singleT (l.getD 0 0):=by rw [u8b];rfl
   refine two_intro (fun h5=>?_) (fun h5=>?_)
   ·have h5:inB singleT (l.getD 0 0)=true:=by rw [← hb];exact h5
    conv=>whnf
    rw [if_pos h5] at hk
    exact hr _ _ rfl hk
   ·have h5:inB singleT (l.getD 0 0)=false:=by rw [← hb];exact h5
    conv=>whnf
    rw [if_neg (by rw [h5];exact Bool.false_ne_true)] at hk
    exact hr _ _ rfl hk
 ·rw [hd1] at h
  have hp:¬ pairP l=true:=by simp only [pairP,h,Bool.false_and];simp
  simp only [signP,if_neg hp] at hk
  conv=>whnf
  refine⟨⟨by omega,by omega⟩,?_⟩
  conv=>whnf
  refine⟨_,_,rfl,?_⟩
  conv=>whnf
  have hb:decide (Lib.indexByte singleT ((byteAt l (Int.toNat 0)).toNat.toUInt8)≥0)=inB singleT (l.getD 0 0):=by rw [u8b];rfl
  refine two_intro (fun h5=>?_) (fun h5=>?_)
  ·have h5:inB singleT (l.getD 0 0)=true:=by rw [← hb];exact h5
   conv=>whnf
   rw [if_pos h5] at hk
   exact hr _ _ rfl hk
  ·have h5:inB singleT (l.getD 0 0)=false:=by rw [← hb];exact h5
   conv=>whnf
   rw [if_neg (by rw [h5];exact Bool.false_ne_true)] at hk
   exact hr _ _ rfl hk
def encTok (t:Tok):List PV:=[.int .i64 t.k.code,.int .i64 t.n,.int .i64 t.at_,.str t.tx]
def encs (e:Int):List Tok→Nat→List PV
 | [],_=>[.int .i64 5,.int .i64 0,.int .i64 e,.str []]
 | t::r,i=>match i with
  | 0=>encTok t
  | i+1=>encs e r i
def kidF (l:List Int) (i:Nat):List PV:=[.int .i64 (l.getD i 0)]
def encNode (n:Nd):List PV:=[.int .i64 n.k,.int .i64 n.n,.int .i64 n.at_,.str n.tx,.sl 1 n.kids.length (kidF n.kids)]
def nodeF (ns:List Nd) (i:Nat):List PV:=encNode (ns.getD i default)
def pb (e:Int) (ts:List Tok) (n:Nat) (op mo:Int):ABlk:=.box 129 [.p (.sl 4 (ts.length+1) (encs e ts)),.slr 1 0 0 n,.p (.int .i64 op),.p (.int .i64 mo)]
def nb (ns:List Nd):ABlk:=.arr 61 5 0 ns.length (fun i=>pvs (nodeF ns i))
def encP (e:Int) (ts:List Tok) (ns:List Nd) (op mo:Int):List ABlk:=[pb e ts ns.length op mo,nb ns]
def pp:AV:=.ptr 0 0 1 0 0
def wrongV (a er:Int):AV:=.iface 126 (.agg [.p (.int .i64 a),.p (.int .i64 er)])
theorem encP_cl (e:Int) (ts:List Tok) (ns:List Nd) (op mo:Int) (r:Nat):(hp (encP e ts ns op mo) r).cl 2 :=
 clK.hp (K:=encP e ts ns op mo) ⟨(rfl:AV.cls 2 _=true),fun i _=>rfl,trivial⟩ r
theorem frameL {G:AG} (hG:GOk Tryz.prog G) (n:Nat) {f:FuncId} {args:List AV} {e:Int} {ts:List Tok} {ns:List Nd} {op mo:Int} {X:List ABlk} {k:AO→List ABlk→Prop} (hcl:AV.cls 2 args=true)
  (h:∀ Q:AO→List ABlk→Prop,
   (∀ v K' ts' ns' op' mo',v.cl 2=true→lesK (takeN K' 2) (encP e ts' ns' op' mo')→k (.ret v) (encP e ts' ns' op' mo'++X)→Q (.ret v) K') →
   (∀ v K',v.cl 0=true→k (.pan v) (deads 2++X)→Q (.pan v) K')→acall1 T0 G n f args (encP e ts ns op mo) Q) :
  ACalls Tryz.prog f args (encP e ts ns op mo++X) k:=by
 refine (ACalls.frame (K0:=encP e ts ns op mo) (k:=fun ao K1=>k ao (K1++X)) hcl (fun r _=>encP_cl e ts ns op mo r)
  (ACalls.post (k:=fun ao K1=>∃ K2,lesK K1 K2∧frameK 2 (fun ao K1=>k ao (K1++X)) ao K2) (call_ok hG n f args _ _ (h _ ?_ ?_)) ?_)).mono ?_
 ·intro v K' ts' ns' op' mo' h1 h3 h4
  refine⟨encP e ts' ns' op' mo'++dropN K' 2,h3.head,h1,?_,fun r hr=>?_,?_⟩
  ·simp [encP]
  ·rw [hp_append,if_pos (show r<(encP e ts' ns' op' mo').length from hr)];exact encP_cl e ts' ns' op' mo' r
  ·have h5:takeN (encP e ts' ns' op' mo'++dropN K' 2) 2=encP e ts' ns' op' mo':=by simp [encP,takeN,takeN_zero]
   show k (.ret v) (takeN (encP e ts' ns' op' mo'++dropN K' 2) 2++X)
   rw [h5];exact h4
 ·intro v K' h1 h2;exact⟨K',lesK.refl _,h1,h2⟩
 ·rintro (v|v) K1 ⟨K2,h1,h2⟩
  ·exact⟨v,K2,Wk1.le (AV.le_refl _) h1,h2⟩
  ·exact⟨v,K2,Wk1.le (AV.le_refl _) h1,h2⟩
 ·rintro ao K ⟨K1,rfl,h⟩;exact h
theorem frameP {G:AG} (hG:GOk Tryz.prog G) (n:Nat) {f:FuncId} {args:List AV} {e:Int} {ts:List Tok} {ns:List Nd} {op mo:Int} {X:List ABlk} {k:AO→List ABlk→Prop} (hcl:AV.cls 2 args=true)
  (h:∀ Q:AO→List ABlk→Prop,
   (∀ v K' ts' ns' op' mo',v.cl 2=true→takeN K' 2=encP e ts' ns' op' mo'→k (.ret v) (encP e ts' ns' op' mo'++X)→Q (.ret v) K') →
   (∀ v K',v.cl 0=true→k (.pan v) (deads 2++X)→Q (.pan v) K')→acall1 T0 G n f args (encP e ts ns op mo) Q) :
  ACalls Tryz.prog f args (encP e ts ns op mo++X) k :=
 frameL hG n hcl fun Q hr hp=>h Q (fun v K' ts' ns' op' mo' h1 h2 h3=>hr v K' ts' ns' op' mo' h1 (h2▸lesK.refl _) h3) hp
structure After {α:Type} (e:Int) (r:R α) (val:α→AV) (op:Int) (X:List ABlk) (k:AO→List ABlk→Prop):Prop where
 ok:∀ a ts' ns' mo',r=.ok a ⟨ts',ns',mo'⟩→k (.ret (val a)) (encP e ts' ns' op mo'++X)
 bad:∀ a er,r=.bad a er→k (.pan (wrongV a er)) (deads 2++X)
def intV (x:Int):AV:=.p (.int .i64 x)
def tokV (t:Tok):AV:=.agg [.p (.int .i64 t.k.code),.p (.int .i64 t.n),.p (.int .i64 t.at_),.p (.str t.tx)]
def cIs:AC:=fun args K k=>∃ e ts ns op mo w X,args=[pp,.p (.str w)]∧K=encP e ts ns op mo++X∧k (.ret (.p (.bool (isS w ts)))) (encP e ts ns op mo++X)
theorem is_ok:COk 180 cIs:=by
 rintro args K k ⟨e,ts,ns,op,mo,w,X,rfl,rfl,hk⟩
 refine frameP g0_ok 9 rfl fun Q hr hp=>?_
 cases ts with
 | nil =>
  conv=>whnf
  refine⟨by simp,?_⟩
  conv=>whnf
  exact hr _ _ _ _ _ _ rfl rfl hk
 | cons t r =>
  obtain⟨tk,tn,ta,tx⟩:=t
  cases tk <;>
  ·conv=>whnf
   refine⟨by simp;omega,?_⟩
   conv=>whnf
   exact hr _ _ _ _ _ _ rfl rfl hk
def cTake:AC:=fun args K k=>∃ e t r ns op mo X,args=[pp]∧K=encP e (t::r) ns op mo++X∧k (.ret (tokV t)) (encP e r ns op mo++X)
theorem take_ok:COk 181 cTake:=by
 rintro args K k ⟨e,t,r,ns,op,mo,X,rfl,rfl,hk⟩
 refine frameP g0_ok 9 rfl fun Q hr hp=>?_
 conv=>whnf
 refine⟨by simp;omega,?_⟩
 conv=>whnf
 refine⟨by simp;omega,?_⟩
 conv=>whnf
 exact hr _ _ r ns op mo rfl rfl hk
def cFail:AC:=fun args K k=>∃ e ts ns op mo er X,args=[pp,.p (.int .i64 er)]∧K=encP e ts ns op mo++X∧k (.pan (wrongV (hd e ts) er)) (deads 2++X)
theorem fail_ok:COk 130 cFail:=by
 rintro args K k ⟨e,ts,ns,op,mo,er,X,rfl,rfl,hk⟩
 refine frameP g0_ok 9 rfl fun Q hr hp=>?_
 cases ts <;>
 ·conv=>whnf
  refine⟨by simp<;>omega,?_⟩
  conv=>whnf
  exact hp _ _ rfl hk
def g1:AG:=gput 180 cIs (gput 181 cTake (gput 130 cFail g0))
theorem g1_ok:GOk Tryz.prog g1:=gput_ok is_ok (gput_ok take_ok (gput_ok fail_ok g0_ok))
theorem isS_cons {w:Bs} {ts:List Tok} (h:isS w ts=true):∃ t r,ts=t::r:=by
 cases ts with
 | nil=>simp [isS] at h
 | cons t r=>exact⟨t,r,rfl⟩
structure SkipK (e:Int) (ts:List Tok) (ns:List Nd) (op mo:Int) (w:Bs) (X:List ABlk) (k:AO→List ABlk→Prop):Prop where
 yes:isS w ts=true→k (.ret (.p (.bool true))) (encP e ts.tail ns op mo++X)
 no:isS w ts=false→k (.ret (.p (.bool false))) (encP e ts ns op mo++X)
def cSkip:AC:=fun args K k=>∃ e ts ns op mo w X,args=[pp,.p (.str w)]∧K=encP e ts ns op mo++X∧SkipK e ts ns op mo w X k
theorem skip_ok:COk 213 cSkip:=by
 rintro args K k ⟨e,ts,ns,op,mo,w,X,rfl,rfl,hk⟩
 refine frameP g1_ok 9 rfl fun Q hr hp=>?_
 conv=>whnf
 refine⟨_,_,_,_,_,_,_,rfl,rfl,?_⟩
 conv=>whnf
 cases h:isS w ts with
 | false =>
  conv=>whnf
  exact hr _ _ _ _ _ _ rfl rfl (hk.no h)
 | true =>
  obtain⟨t,r,rfl⟩:=isS_cons h
  conv=>whnf
  refine⟨_,_,_,_,_,_,_,rfl,rfl,?_⟩
  conv=>whnf
  exact hr _ _ _ _ _ _ rfl rfl (hk.yes h)
def cWant:AC:=fun args K k=>∃ e ts ns op mo w X,args=[pp,.p (.str w)]∧K=encP e ts ns op mo++X∧After e (wantS e w ⟨ts,ns,mo⟩) (fun _=>.tup []) op X k
def g2:AG:=gput 213 cSkip g1
theorem g2_ok:GOk Tryz.prog g2:=gput_ok skip_ok g1_ok
theorem want_ok:COk 184 cWant:=by
 rintro args K k ⟨e,ts,ns,op,mo,w,X,rfl,rfl,hk⟩
 refine frameP g2_ok 9 rfl fun Q hr hp=>?_
 conv=>whnf
 refine⟨_,_,_,_,_,_,_,rfl,rfl,⟨fun h=>?_,fun h=>?_⟩⟩
 ·conv=>whnf
  exact hr _ _ _ _ _ _ rfl rfl (hk.ok () _ _ _ (by simp [wantS,h,dropS]))
 ·conv=>whnf
  refine⟨_,_,_,_,_,_,_,rfl,rfl,?_⟩
  conv=>whnf
  exact hp _ _ rfl (hk.bad _ _ (by simp [wantS,h]))
def cIdent:AC:=fun args K k=>∃ e ts ns op mo X,args=[pp]∧K=encP e ts ns op mo++X∧After e (identS e ⟨ts,ns,mo⟩) tokV op X k
theorem ident_ok:COk 182 cIdent:=by
 rintro args K k ⟨e,ts,ns,op,mo,X,rfl,rfl,hk⟩
 refine frameP g2_ok 9 rfl fun Q hr hp=>?_
 cases ts with
 | nil =>
  conv=>whnf
  refine⟨by simp,?_⟩
  conv=>whnf
  refine⟨_,_,_,_,_,_,_,rfl,rfl,?_⟩
  conv=>whnf
  exact hp _ _ rfl (hk.bad _ _ rfl)
 | cons t r =>
  obtain⟨tk,tn,ta,tx⟩:=t
  cases tk with
  | name =>
   conv=>whnf
   refine⟨by simp;omega,?_⟩
   conv=>whnf
   refine⟨_,_,_,_,_,_,_,rfl,rfl,?_⟩
   conv=>whnf
   exact hr _ _ _ _ _ _ rfl rfl (hk.ok _ _ _ _ rfl)
  | _ =>
   conv=>whnf
   refine⟨by simp;omega,?_⟩
   conv=>whnf
   refine⟨_,_,_,_,_,_,_,rfl,rfl,?_⟩
   conv=>whnf
   exact hp _ _ rfl (hk.bad _ _ rfl)
def g3:AG:=gput 184 cWant (gput 182 cIdent g2)
theorem g3_ok:GOk Tryz.prog g3:=gput_ok want_ok (gput_ok ident_ok g2_ok)
theorem put0 {e:Int} {ts:List Tok} {ns:List Nd} {op mo:Int} {n:Nd} {X:List ABlk} {k:AO→List ABlk→Prop} (hn:ns.length<1000000)
  (hk:k (.ret (intV ns.length)) (encP e ts (ns++[n]) op mo++X)) :
  ACalls Tryz.prog 133 [pp,.agg [.p (.int .i64 n.k),.p (.int .i64 n.n),.p (.int .i64 n.at_),.p (.str n.tx),.p .nils],.p (.sl 1 n.kids.length (kidF n.kids))] (encP e ts ns op mo++X) k:=by
 refine frameL g0_ok 9 rfl fun Q hr hp=>?_
 conv=>whnf
 refine⟨by conv=>whnf,?_⟩
 refine⟨⟨rfl,rfl,rfl,fun i hi=>?_⟩,?_⟩
 ·obtain rfl:i=0:=by omega
  rfl
 conv=>whnf
 refine⟨by simp;omega,?_⟩
 conv=>whnf
 have hv:IntKind.i64.wrap (((ns.length+1:Nat):Int) - 1)=ns.length:=by rw [w64]<;>omega
 rw [hv]
 refine hr _ _ ts (ns++[n]) op mo rfl ⟨ABlk.le_of_eq (by simp [pb]),ABlk.arr_eq (by simp) fun i hi=>?_,trivial⟩ hk
 by_cases h:i<ns.length
 ·rw [catF_lt h]
  show pvs (nodeF ns i)=pvs (nodeF (ns++[n]) i)
  simp [nodeF,List.getElem?_append_left h]
 ·obtain rfl:i=ns.length:=by omega
  rw [catF_ge (Nat.le_refl _),Nat.sub_self]
  show _=pvs (nodeF (ns++[n]) ns.length)
  simp [nodeF]
  rfl
structure PutK (e:Int) (ts:List Tok) (ns:List Nd) (op mo:Int) (n:Nd) (kv:AV) (X:List ABlk) (k:AO→List ABlk→Prop):Prop where
 small:ns.length<1000000
 none:kv=.p .nils→n.kids=[]∧k (.ret (intV ns.length)) (encP e ts (ns++[n]) op mo++X)
 row:∀ r ver m,kv=.slr r ver 0 m→∃ j f,r=j+2∧nth X j=some (.arr 3 1 ver m f)∧n.kids.length=m∧(∀ i,i<m→f i=[intV (n.kids.getD i 0)])∧k (.ret (intV ns.length)) (encP e ts (ns++[n]) op mo++setN X j .dead)
 sort:kv=.p .nils∨∃ r ver m,kv=.slr r ver 0 m
def cPut:AC:=fun args K k=>∃ kids e ts ns op mo kd nn na tx kv X,args=[pp,.agg [.p (.int .i64 kd),.p (.int .i64 nn),.p (.int .i64 na),.p (.str tx),.p .nils],kv]∧K=encP e ts ns op mo++X∧PutK e ts ns op mo ⟨kd,nn,na,tx,kids⟩ kv X k
theorem PutK.nils {e:Int} {ts:List Tok} {ns:List Nd} {op mo kd nn na:Int} {tx:Bs} {X:List ABlk} {k:AO→List ABlk→Prop} (hs:ns.length<1000000)
  (h:k (.ret (intV ns.length)) (encP e ts (ns++[⟨kd,nn,na,tx,[]⟩]) op mo++X)):PutK e ts ns op mo ⟨kd,nn,na,tx,[]⟩ (.p .nils) X k :=
 ⟨hs,fun _=>⟨rfl,h⟩,fun _ _ _ h=>by simp at h,.inl rfl⟩
theorem PutK.slr {e:Int} {ts:List Tok} {ns:List Nd} {op mo kd nn na:Int} {tx:Bs} {kids:List Int} {j r ver m:Nat} {f:Nat→List AV} {X:List ABlk} {k:AO→List ABlk→Prop} (hs:ns.length<1000000)
  (hr:r=j+2) (hj:nth X j=some (.arr 3 1 ver m f)) (hm:kids.length=m) (hf:∀ i,i<m→f i=[intV (kids.getD i 0)])
  (h:k (.ret (intV ns.length)) (encP e ts (ns++[⟨kd,nn,na,tx,kids⟩]) op mo++setN X j .dead)):PutK e ts ns op mo ⟨kd,nn,na,tx,kids⟩ (.slr r ver 0 m) X k :=
 ⟨hs,fun h=>by simp at h,fun r' ver' m' h'=>by
  simp only [AV.slr.injEq] at h'
  obtain⟨rfl,rfl,-,rfl⟩:=h'
  exact⟨j,f,hr,hj,hm,hf,h⟩,.inr ⟨_,_,_,rfl⟩⟩
theorem put_ok:COk 133 cPut:=by
 rintro args K k ⟨kids,e,ts,ns,op,mo,kd,nn,na,tx,kv,X,rfl,rfl,hk⟩
 rcases hk.sort with rfl|⟨r,ver,m,rfl⟩
 ·obtain⟨h1,h2⟩:=hk.none rfl
  refine (put0 (n:=⟨kd,nn,na,tx,kids⟩) hk.small h2).pre (Wk.le ⟨AV.le_refl _,AV.le_refl _,?_,trivial⟩ (lesK.refl _))
  rw [h1];exact AV.nils_le 1 _
 ·obtain⟨j,f,rfl,hj,rfl,hf,h2⟩:=hk.row _ _ _ rfl
  refine (put0 (n:=⟨kd,nn,na,tx,kids⟩) hk.small h2).pre fun w m Args hS hV=>?_
  have hj':nth (encP e ts ns op mo++X) (j+2)=some (.arr 3 1 ver kids.length f):=hj
  obtain⟨m',h3,h4,h5⟩:=freeze_sl hS hj' (kidF kids) hf
  refine⟨m',h3,h4,hV.1,fun i hi hi'=>?_⟩
  have h6:=fun i hi hi'=>(hV.2 i hi hi').mono h3
  rcases i with _|_|_|i
  ·exact h6 0 hi hi'
  ·exact h6 1 hi hi'
  ·exact h5 _ (hV.2 2 hi hi')
  ·simp at hi;omega
def g4:AG:=gput 133 cPut g3
theorem g4_ok:GOk Tryz.prog g4:=gput_ok put_ok g3_ok
def idxG (ts:List Tok):Nat→List Bs→Int
 | _,[]=>-1
 | i,w::r=>match isS w ts with
  | true=>i
  | false=>idxG ts (i+1) r
def strF (l:List Bs) (i:Nat):List PV:=[.str (l.getD i [])]
def isF:AV:=.fn 180 [pp] []
def cIdx:AC:=fun args K k=>∃ e ts ns op mo l X,args=[.p (.sl 1 (List.length l) (strF l)),isF]∧K=encP e ts ns op mo++X∧l.length<1000∧k (.ret (intV (idxG ts 0 l))) (encP e ts ns op mo++X)
theorem idx_ok:COk 214 cIdx:=by
 rintro args K k ⟨e,ts,ns,op,mo,l,X,rfl,rfl,hl,hk⟩
 refine frameP g1_ok 9 rfl fun Q hr hp=>?_
 conv=>whnf
 refine loop_by (ι:=Nat) (fun i=>⟨[(8,intV i),(7,intV l.length),(1,isF),(0,.p (.sl 1 l.length (strF l)))],encP e ts ns op mo⟩)
   (fun i=>i≤l.length∧idxG ts i (l.drop i)=idxG ts 0 l) (fun i=>l.length - i) 0 ⟨AV.le_refl _,AV.le_refl _,AV.le_refl _,AV.le_refl _,trivial⟩ (lesK.refl _) ⟨by omega,rfl⟩ ?_
 intro Y hle i ⟨hi,he⟩ ih
 conv=>whnf
 refine two_intro (fun h=>?_) (fun h=>?_)
 ·have h:i<l.length:=by simpa using h
  rw [List.drop_eq_getElem_cons h] at he
  conv=>whnf
  refine⟨⟨by omega,by omega,rfl⟩,?_⟩
  conv=>whnf
  refine⟨e,ts,ns,op,mo,_,[],rfl,rfl,?_⟩
  conv=>whnf
  have hi2:((i:Int)).toNat=i:=by omega
  have e1:l.getD (Int.toNat i) []=l[i]:=by simp [List.getD_eq_getElem?_getD,h]
  refine two_intro (fun h2=>?_) (fun h2=>?_)
  ·conv=>whnf
   have h2:isS l[i] ts=true:=e1▸h2
   simp only [idxG,h2] at he
   exact hr _ _ ts ns op mo rfl rfl (he▸hk)
  ·conv=>whnf
   have h2:isS l[i] ts=false:=e1▸h2
   simp only [idxG,h2] at he
   refine hle _ _ (Le.env ?_ (lesK.refl _)) (ih (i+1) (by omega) ⟨by omega,he⟩)
   refine⟨AV.le_of_eq ?_,AV.le_refl _,AV.le_refl _,AV.le_refl _,trivial⟩
   show AV.p (.int .i64 (IntKind.i64.wrap ((i:Int)+1)))=intV ((i+1:Nat):Int)
   rw [w64 (by omega)];rfl
 ·have h:¬ i<l.length:=by simpa using h
  obtain rfl:i=l.length:=by omega
  rw [List.drop_length] at he
  conv=>whnf
  rw [← he] at hk
  exact hr _ _ ts ns op mo rfl rfl hk
def cIdx2:AC:=fun args K k=>cIdx args K k∨∃ l e ts ns op mo j r ver m f X,args=[.slr r ver 0 m,isF]∧K=encP e ts ns op mo++X∧r=j+2∧nth X j=some (.arr 9 1 ver m f)∧List.length l=m∧m<1000∧(∀ i,i<m→f i=pvs (strF l i))∧k (.ret (intV (idxG ts 0 l))) (encP e ts ns op mo++setN X j .dead)
theorem idx2_ok:COk 214 cIdx2:=by
 rintro args K k (h|⟨l,e,ts,ns,op,mo,j,r,ver,m,f,X,rfl,rfl,rfl,hj,rfl,hl,hf,hk⟩)
 ·exact idx_ok args K k h
 ·refine (idx_ok [.p (.sl 1 l.length (strF l)),isF] (encP e ts ns op mo++setN X j .dead) k ⟨e,ts,ns,op,mo,l,_,rfl,rfl,hl,hk⟩).pre fun w m Args hS hV=>?_
  have hj':nth (encP e ts ns op mo++X) (j+2)=some (.arr 9 1 ver l.length f):=hj
  obtain⟨m',h3,h4,h5⟩:=freeze_sl hS hj' (strF l) hf
  refine⟨m',h3,h4,hV.1,fun i hi hi'=>?_⟩
  have h6:=fun i hi hi'=>(hV.2 i hi hi').mono h3
  rcases i with _|_|i
  ·exact h5 _ (hV.2 0 hi hi')
  ·exact h6 1 hi hi'
  ·simp at hi;omega
def g5:AG:=gput 214 cIdx2 g4
theorem g5_ok:GOk Tryz.prog g5:=gput_ok idx2_ok g4_ok
theorem idxG_any (ts:List Tok) (l:List Bs) (i:Nat):decide (idxG ts i l≥0)=anyS l ts:=by
 induction l generalizing i with
 | nil=>rfl
 | cons w r ih =>
  simp only [idxG,anyS,List.any_cons]
  by_cases h:isS w ts=true
  ·simp [h]
  ·have h:isS w ts=false:=by simpa using h
   simp only [h]
   rw [Bool.false_or];exact ih (i+1)
def cAny:AC:=fun args K k=>∃ e ts ns op mo l X,args=[.p (.sl 1 (List.length l) (strF l)),isF]∧K=encP e ts ns op mo++X∧l.length<1000∧k (.ret (.p (.bool (anyS l ts)))) (encP e ts ns op mo++X)
theorem any_ok:COk 243 cAny:=by
 rintro args K k ⟨e,ts,ns,op,mo,l,X,rfl,rfl,hl,hk⟩
 refine frameP g5_ok 9 rfl fun Q hr hp=>?_
 conv=>whnf
 refine .inl ⟨e,ts,ns,op,mo,l,[],rfl,rfl,hl,?_⟩
 conv=>whnf
 rw [← idxG_any ts l 0] at hk
 exact hr _ _ ts ns op mo rfl rfl hk
def cRows:AC:=fun args K k=>∃ j:Nat,∃ kk,j≤4∧args=[.p (.int .i64 kk)]∧kk=4 - (j:Int)∧k (.ret (.p (.sl 1 (rowS j).length (strF (rowS j))))) K
theorem rows_ok:COk 244 cRows:=by
 rintro args K k ⟨j,kk,hj,rfl,rfl,hk⟩
 refine (ACalls.frame (K0:=[]) (X:=K) (k:=fun ao K1=>k ao (K1++K)) rfl (fun r h=>by simp at h) ?_).mono (fun ao K1 h=>?_)
 ·refine (ACalls.post (k:=fun ao K1=>∃ f,ao=.ret (.slr 0 0 0 (rowS j).length)∧K1=[.arr 9 1 0 (rowS j).length f]∧∀ i,i<(rowS j).length→f i=pvs (strF (rowS j) i)) (call_ok g0_ok 9 _ _ _ _ ?_) ?_)
  ·have hc:j=0∨j=1∨j=2∨j=3∨j=4:=by omega
   rcases hc with rfl|rfl|rfl|rfl|rfl
   ·conv=>whnf
    exact⟨_,rfl,rfl,allLt_ok ⟨⟨⟨trivial,rfl⟩,rfl⟩,rfl⟩⟩
   ·conv=>whnf
    exact⟨_,rfl,rfl,allLt_ok ⟨⟨trivial,rfl⟩,rfl⟩⟩
   ·conv=>whnf
    exact⟨_,rfl,rfl,allLt_ok ⟨⟨⟨⟨⟨⟨trivial,rfl⟩,rfl⟩,rfl⟩,rfl⟩,rfl⟩,rfl⟩⟩
   ·conv=>whnf
    exact⟨_,rfl,rfl,allLt_ok ⟨trivial,rfl⟩⟩
   ·conv=>whnf
    exact⟨_,rfl,rfl,allLt_ok ⟨trivial,rfl⟩⟩
  ·rintro ao K1 ⟨f,rfl,rfl,hf⟩
   refine⟨_,_,Wk1.freeze (r:=0) rfl (strF (rowS j)) hf,rfl,?_,fun r h=>by simp at h,hk⟩
   simp
 ·obtain⟨K2,rfl,h⟩:=h;exact h
def g6:AG:=gput 243 cAny (gput 244 cRows g5)
theorem g6_ok:GOk Tryz.prog g6:=gput_ok any_ok (gput_ok rows_ok g5_ok)
def typeL:List Bs:=[[105,110,116],[98,111,111,108],[97,114,114],[102,117,110]]
theorem types_eq (ts:List Tok):idxG ts 0 typeL+1=typesS ts:=by
 simp only [typeL,idxG,typesS]
 split<;>rename_i h1<;>simp only [h1]
 ·rfl
 split<;>rename_i h2<;>simp only [h2]
 ·rfl
 split<;>rename_i h3<;>simp only [h3]
 ·rfl
 split<;>rename_i h4<;>simp only [h4]
 ·rfl
 ·rfl
theorem types_in (ts:List Tok):0≤typesS ts∧typesS ts≤4:=by
 simp only [typesS]
 repeat' split
 all_goals omega
def cTypes:AC:=fun args K k=>∃ e ts ns op mo X,args=[pp]∧K=encP e ts ns op mo++X∧k (.ret (intV (typesS ts))) (encP e ts ns op mo++X)
theorem typesC_ok:COk 189 cTypes:=by
 rintro args K k ⟨e,ts,ns,op,mo,X,rfl,rfl,hk⟩
 refine frameP g5_ok 9 rfl fun Q hr hp=>?_
 conv=>whnf
 refine .inr ⟨typeL,e,ts,ns,op,mo,0,_,_,_,_,_,rfl,rfl,rfl,rfl,rfl,by decide,allLt_ok ⟨⟨⟨⟨trivial,rfl⟩,rfl⟩,rfl⟩,rfl⟩,?_⟩
 conv=>whnf
 have hv:IntKind.i64.wrap (idxG ts 0 typeL+1)=typesS ts:=by
  rw [types_eq]
  have:=types_in ts
  rw [w64 (by omega)]
 rw [hv]
 exact hr _ _ ts ns op mo rfl rfl hk
def g7:AG:=gput 189 cTypes g6
theorem g7_ok:GOk Tryz.prog g7:=gput_ok typesC_ok g6_ok
end Go.Proofs.YtojjkleplnijaaaGreatDoor
