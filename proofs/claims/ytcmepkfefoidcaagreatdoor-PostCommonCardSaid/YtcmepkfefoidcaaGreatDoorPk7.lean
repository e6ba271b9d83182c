/-
  On the way to what follows: part 7 of 0.
-/
import Derived.RecoverIn
import Derived.KernelRfl
import Derived.Shelf.Small.Strs
import Derived.Shelf.Strconv.Atoi
import Derived.Shelf.Strconv.Itoa0
import Derived.Shelf.Strconv.Itoa1
import Derived.Shelf.LaysM
import Derived.Shelf.Strconv.Itoa2
import Derived.Shelf.Strconv.Itoa3
import Derived.Shelf.Strconv.AtoiErrFast
import Derived.Shelf.Strconv.ParseIntEmpty
import Derived.Shelf.Strconv.AtoiFail
import Derived.Shelf.Strconv.Clone
import Derived.Shelf.Strconv.SyntaxError
import Derived.Shelf.LaysC
import Derived.Shelf.Strconv.ToError
import Derived.Shelf.Strconv.Lower
import Derived.Shelf.Strconv.ParseUint10
import Derived.Shelf.Strconv.ParseUint10Empty
import Derived.Shelf.Strconv.ParseUint10Any
import Derived.Shelf.Strconv.ParseInt10
import Derived.Shelf.Strconv.AtoiLong
import Derived.Shelf.Strconv.AtoiInnerAll
import Derived.Shelf.Strconv.RangeError
import Derived.Shelf.Strconv.ToErrorRange
import Derived.Shelf.Strconv.AtoiAll
import Derived.Shelf.Strings.Search1
import Derived.Shelf.Strings.Search2
import Derived.Shelf.Strings.Search3
import Derived.Shelf.Strings.Shaped
import Derived.Ground.Names2Prog
import Derived.Shelf.Slices.Clone
import Derived.Test.YtcmepkfefoidcaaGreatDoorProg
import Derived.Test.YtcmepkfefoidcaaGreatDoorPk3
import Derived.Test.YtcmepkfefoidcaaGreatDoorPk4
import Derived.Test.YtcmepkfefoidcaaGreatDoorPk5
import Derived.Test.YtcmepkfefoidcaaGreatDoorPk6
set_option linter.unusedVariables false
set_option linter.unusedSimpArgs false
namespace Go.AE
def plainOp:Op→Bool
 | .move _ | .assign _ | .alloc _ | .store _ _ _ | .load _ _ | .extract _ _ | .typeAssert _ _ _ _ | .fieldAddr _ _ _=>true
 | _=>false
def plainL:List Oper→Bool
 | []=>true
 | o::r=>plainOp o.op&&o.guard.isNone&&plainL r
def isRec:Op→Bool
 | .call c=>match c.callee with
  | .builtin .recover=>true
  | _=>false
 | _=>false
def deferOf (o:Oper):Option Nat:=match o.op with
 | .defer c=>match c.callee with
  | .value (.tmp d)=>match c.args.toList with
   | []=>match o.dst with
    | none=>match o.guard with
     | none=>some d
     | some _=>none
    | some _=>none
   | _=>none
  | _=>none
 | _=>none
noncomputable def recE (T:Tab) (fn:Func) (k:List ABlk→Prop) (e:Ex) (s:AS):Prop:=match e with
 | .norm=>ares T fn s fun _=>fK s.K k
 | .ret=>ares T fn s fun _=>fK s.K k
 | _=>False
noncomputable def recM (T:Tab) (call:ACall) (fn:Func) (kb:Nat) (y:Code) (k:List ABlk→Prop) (e:Ex) (s:AS):Prop:=match e with
 | .norm=>awp T call kb fn.ntmps y s (recE T fn k)
 | _=>False
noncomputable def recW (T:Tab) (call:ACall) (fn:Func) (caps:List AV) (K:List ABlk) (rv:AV) (k:List ABlk→Prop):Prop :=
 match fn.body with
 | some (.seq (.region _ ops false) y)=>match ops.toList with
  | o0::os=>match isRec o0.op,o0.dst,o0.guard with
   | true,some d,none=>match plainL os&&Nat.ble (len caps) fn.ntmps&&Nat.blt d fn.ntmps&&noRF y with
    | true=>fV rv fun rv=>aops T call fn.ntmps ops.toList os ((d,rv)::frame0 0 caps) K (recM T call fn (len K) y k)
    | false=>False
   | _,_,_=>False
  | []=>False
 | _=>False
noncomputable def bEnd (T:Tab) (fn:Func) (k:AO→List ABlk→Prop) (e:Ex) (s:AS):Prop:=match e with
 | .norm=>ares T fn s fun v=>fK s.K fun K=>k (.ret v) K
 | .ret=>ares T fn s fun v=>fK s.K fun K=>k (.ret v) K
 | .pan v=>fV v fun v=>fK s.K fun K=>k (.pan v) K
 | .exit _=>False
noncomputable def dRes (T:Tab) (fn:Func) (k:AO→List ABlk→Prop) (t:List (Nat×AV)) (K:List ABlk):Prop:=ares T fn ⟨t,K⟩ fun v=>fK K fun K=>k (.ret v) K
noncomputable def dEnd (T:Tab) (call:ACall) (fn gf:Func) (caps:List AV) (k:AO→List ABlk→Prop) (e:Ex) (s:AS):Prop:=match e with
 | .norm=>recW T call gf caps s.K (.p .nili) (dRes T fn k s.t)
 | .ret=>recW T call gf caps s.K (.p .nili) (dRes T fn k s.t)
 | .pan v=>recW T call gf caps s.K v (dRes T fn k s.t)
 | .exit _=>False
noncomputable def dMid (T:Tab) (call:ACall) (fn:Func) (o1:Oper) (d:Nat) (y:Code) (k:AO→List ABlk→Prop) (s:AS):Prop :=
 bound fn.ntmps o1.dst <| aop T call o1 s.t s.K (fun v K'=>match look (put s.t o1.dst v) d with
  | .fn g first caps=>match first with
   | []=>match T.f.get g with
    | some gf=>match gf.body.isSome with
     | true=>awp T call (len K') fn.ntmps y ⟨put s.t o1.dst v,K'⟩ (dEnd T call fn gf caps k)
     | false=>False
    | none=>False
   | _=>False
  | _=>False) (fun _ _=>False)
noncomputable def abodyD (T:Tab) (call:ACall) (fn:Func) (args:List AV) (K:List ABlk) (k:AO→List ABlk→Prop):Prop :=
 match fn.body with
 | some (.seq c1 (.seq c2 (.seq c3 (.seq (.region _ ops false) y))))=>match ops.toList with
  | [o1,o2]=>match deferOf o2,o1.guard with
   | some d,none=>match Nat.ble (len args) fn.ntmps&&noRF c1&&noRF c2&&noRF c3&&noRF y with
    | true=>fK K fun K=>awp T call (len K) fn.ntmps c1 ⟨frame0 0 args,K⟩ (wSeqK (fun s Q=>awp T call (len K) fn.ntmps c2 s (wSeqK (fun s Q=>awp T call (len K) fn.ntmps c3 s (wSeqK (fun s _=>dMid T call fn o1 d y k s) Q)) Q)) (bEnd T fn k))
    | false=>False
   | _,_=>False
  | _=>False
 | _=>False
section
variable {P:Program} {T:Tab} {call:ACall} {we:World} {me:Mp} {N kb:Nat} {D0:List Deferred} {bm:Bool} {ro:Option Nat} {nn:Nat}
def isPl:Result Next→Bool
 | .ok (.value _) _=>true
 | .ok .skip _=>true
 | .halt _ _=>true
 | _=>false
theorem isPl_val (s:Sem Value) (w:World):isPl ((do pure (Next.value (← s)):Sem Next).run P w)=true:=by
 cases h:s.run P w<;>simp [h,isPl]
theorem isPl_skip (s:Sem Unit) (w:World):isPl ((do s;pure Next.skip:Sem Next).run P w)=true:=by
 cases h:s.run P w<;>simp [h,isPl]
theorem exec_plain {o:Oper} (hp:plainOp o.op=true) (ρ:Operand→Value) (w:World):isPl ((execOp ρ o).run P w)=true:=by
 unfold execOp
 cases hop:o.op<;>rw [hop] at hp<;>first|(simp [plainOp] at hp;done)|exact isPl_val _ _|exact isPl_skip _ _|rfl
theorem aopsS_ok (hT:TabOk P T) (hcall:CallOk P call) {ops:Array Oper} {Q:Ex→AS→Prop} {cs:List Frame} (l:List Oper):∀ (i:Nat) (t:List (Nat×AV)) (K:List ABlk),(∀ j,l[j]?=ops[i+j]?)→plainL l=true →
  aops T call N ops.toList l t K Q→∀ (w:World) (m:Mp) (a:Act),Tr we me w m→St w m (hp K)→EnvOk w m t a.tmps→a.tmps.size=N→Mk bm we D0 w m a.defers →
  wpOpsSIn (FW none) nn P ops (fun e a cs' w'=>cs'=cs∧Rel bm N we me D0 Q e a w') (List.range' i l.length) a cs w:=by
 induction l with
 | nil=>intro i t K _ _ h w m a hTr hS hE hN hd;exact⟨rfl,hN,m,⟨t,K⟩,hd,hTr,hS,hE,h⟩
 | cons o rest ih =>
  intro i t K hl hp h w m a hTr hS hE hN hd
  simp only [plainL,Bool.and_eq_true] at hp
  obtain⟨⟨hp1,hg⟩,hp2⟩:=hp
  have hg:o.guard=none:=by simpa using hg
  rw [aops_cons] at h
  simp only [want,hg] at h
  obtain⟨hb,h⟩:=bound_ok h
  have h0:ops[i]?=some o:=by simpa using (hl 0).symm
  simp only [List.length_cons,List.range'_succ,wpOpsSIn,h0]
  refine⟨fun _ _=>trivial,?_⟩
  rw [if_pos (by simp [Region.wanted,hg])]
  have hu:=aopX_ok (ro:=none) (nn:=nn) (next:=fun a w=>wpOpsSIn (FW none) nn P ops (fun e a cs' w'=>cs'=cs∧Rel bm N we me D0 Q e a w') (List.range' (i+1) rest.length) a cs w)
   (Q:=fun e a w=>cs=cs∧Rel bm N we me D0 Q e a w) hT hcall hS hE (fun w' m' v K' u h1 h2 h3 h4=>ih (i+1) _ _ (fun j=>by have:=hl (j+1);simpa [Nat.add_assoc,Nat.add_comm 1 j] using this) hp2 h4 w' m' _ (hTr.trans h1) h2
    ((hE.mono h1).put (fun x hx=>by rw [hN];exact hb x hx) h3) (by rw [put_size];exact hN) (by rw [put_defers];exact hd.mono h1))
   (fun w' m' v K' u h1 h2 h3 h4=>⟨rfl,hN,m',⟨t,K'⟩,v,u,hd.mono h1,rfl,hTr.trans h1,h2,hE.mono h1,h3,h4⟩) h
  have hpl:=exec_plain (P:=P) hp1 a.eval w
  generalize (execOp a.eval o).run P w=r at hpl hu ⊢
  cases r with
  | ok x w'=>cases x<;>first|exact hu|simp [isPl] at hpl
  | halt x w'=>cases x<;>first|exact⟨trivial,hu.2⟩|exact hu.elim
theorem wpOpsSIn_mono {ops:Array Oper} {Q Q':Exit→Act→List Frame→World→Prop} {l:List Nat} {a:Act} {cs:List Frame} {w:World} (h:wpOpsSIn (FW none) nn P ops Q l a cs w) (hq:∀ e a cs w,Q e a cs w→Q' e a cs w):wpOpsSIn (FW none) nn P ops Q' l a cs w:=by
 induction l generalizing a cs w with
 | nil=>exact hq _ _ _ _ h
 | cons i rest ih =>
  simp only [wpOpsSIn] at h ⊢
  cases ho:ops[i]? with
  | none=>rw [ho] at h;exact ih h
  | some o =>
   rw [ho] at h
   simp only at h ⊢
   refine⟨h.1,?_⟩
   have h:=h.2
   split at h
   ·rename_i hw
    rw [if_pos hw]
    generalize (execOp a.eval o).run P w=r at h ⊢
    cases r with
    | ok x w' =>
     cases x with
     | recover =>
      simp only at h ⊢
      cases hrd:recoverD cs with
      | none=>rw [hrd] at h;exact ih h
      | some x=>rw [hrd] at h;exact ih h
     | value v=>exact ih h
     | skip=>exact ih h
     | _=>exact h.elim
    | halt x w'=>cases x<;>first|exact hq _ _ _ _ h|exact h.elim
   ·rename_i hw
    rw [if_neg hw]
    exact ih h
theorem ares_nores (hT:TabOk P T) {w:World} {m:Mp} {s:AS} {a:Act} (hS:St w m (hp s.K)) (hE:EnvOk w m s.t a.tmps) {fn:Func} {q:Prop} (h:ares T fn s fun _=>q):(∃ u,(results fn a.tmps).run P w=.ok u w)∧q:=by
 obtain⟨u,v,h1,_,h3⟩:=ares_ok hT hS hE h
 exact⟨⟨u,h1⟩,h3⟩
theorem recW_ok (hT:TabOk P T) (hcall:CallOk P call) (hmix:P.follows .mixedOrders=true) {g:FuncId} {fn:Func} (hf:P.funcs[g]?=some fn) {caps:List AV} {K:List ABlk} {rv:AV} {k:List ABlk→Prop} (h:recW T call fn caps K rv k)
  {w:World} {m:Mp} {U:Array Value} {u:FrameMode} (hS:St w m (hp K)) (hU:VL w m caps U)
  (hrec:∀ (c₀:Frame) cs,c₀.mode=u→∃ x u',V w m rv x∧settle u'=.returning∧(recoverD (c₀::cs)=some (x,{ c₀ with mode:=u' }::cs)∨(recoverD (c₀::cs)=none∧x=.nilIface∧u'=u))) :
  CallsDIn (FW none) nn P g U u w (fun e u' w'=>(∃ v,e=.returned v)∧settle u'=.returning∧∃ m' K',Tr w m w' m'∧St w' m' (hp K')∧k K'):=by
 unfold recW at h
 split at h
 case h_2=>exact h.elim
 rename_i id ops y hb
 split at h
 case h_2=>exact h.elim
 rename_i o0 os hops
 split at h
 case h_2=>exact h.elim
 rename_i d hr0 hd0 hg0
 split at h
 case h_2=>exact h.elim
 rename_i hchk
 simp only [Bool.and_eq_true] at hchk
 obtain⟨⟨⟨hpl,hle⟩,hdlt⟩,hrf⟩:=hchk
 have hle:caps.length≤fn.ntmps:=by have:=Nat.le_of_ble_eq_true hle;rwa [len_eq] at this
 have hdlt:d<fn.ntmps:=Nat.le_of_ble_eq_true hdlt
 rw [fV_eq] at h
 have hkb:∀ r,len K≤r→m.L r=.absent:=fun r hr=>hS.absent (by
  simp only [hp,nth_eq]
  rw [len_eq] at hr
  rw [List.getElem?_eq_none hr])
 refine callsDIn_of_wpSIn hf hb trivial fun c₀ cs hu=>?_
 obtain⟨x,u',hx,hset,hrd⟩:=hrec c₀ cs hu
 refine wpSIn_seq (wpSIn_region ?_)
 have hsz:ops.size=os.length+1:=by rw [← Array.length_toList,hops];rfl
 have hr:List.range ops.size=0::List.range' 1 os.length:=by
  rw [hsz,List.range_eq_range',List.range'_succ]
 rw [hr]
 have h0:ops[0]?=some o0:=by rw [← Array.getElem?_toList,hops];rfl
 simp only [wpOpsSIn,h0]
 refine⟨fun _ _=>trivial,?_⟩
 rw [if_pos (by simp [Region.wanted,hg0])]
 have hexec:(execOp (Act.eval { tmps:=U++Array.replicate (fn.ntmps - U.size) undef,defers:=[] }) o0).run P w=.ok .recover w:=by
  unfold isRec at hr0
  split at hr0
  case h_2=>simp at hr0
  rename_i c hop
  split at hr0
  case h_2=>simp at hr0
  rename_i hc
  unfold execOp
  simp only [hop,resolve,hc]
  simp [go_sem,invoke,builtin]
 rw [hexec]
 have hN:(U++Array.replicate (fn.ntmps - U.size) undef).size=fn.ntmps:=by simp;have:=hU.1;omega
 have hE0:EnvOk w m ((d,rv)::frame0 0 caps) ((U++Array.replicate (fn.ntmps - U.size) undef).setIfInBounds d x):=(EnvOk.frame hU _).set (by rw [hN];exact hdlt) hx
 have key:wpOpsSIn (FW none) nn P ops (Exit.thenS (y.wpSIn (FW none) nn P (bodyPostS P fn c₀ cs fun e u' w'=>(∃ v,e=.returned v)∧settle u'=.returning∧∃ m' K',Tr w m w' m'∧St w' m' (hp K')∧k K'))
   (bodyPostS P fn c₀ cs fun e u' w'=>(∃ v,e=.returned v)∧settle u'=.returning∧∃ m' K',Tr w m w' m'∧St w' m' (hp K')∧k K')) (List.range' 1 os.length)
   { tmps:=(U++Array.replicate (fn.ntmps - U.size) undef).setIfInBounds d x,defers:=[] } ({ c₀ with mode:=u' }::cs) w:=by
  refine wpOpsSIn_mono (aopsS_ok (bm:=false) (D0:=[]) (we:=w) (me:=m) (cs:={ c₀ with mode:=u' }::cs) hT hcall os 1 _ K (fun j=>?_) hpl h w m _ (Tr.refl w m) hS hE0 (by simpa using hN) .base) ?_
  ·rw [← Array.getElem?_toList,hops,Nat.add_comm];rfl
  rintro e a1 cs1 w1 ⟨rfl,hR⟩
  cases e with
  | normal =>
   obtain⟨hN1,m1,s1,hd1,hT1,hS1,hE1,hQ⟩:=hR
   refine wpSIn_of_wpIn rfl (wpIn_mono (awp_ok (ro:=none) (bm:=false) (D0:=[]) (we:=w) (me:=m) hT hcall hmix hkb (fun d hd=>by simp at hd) y _ _ hQ w1 m1 a1 hT1 hS1 hE1 hN1 hd1 (.inr hrf)) fun e a2 w2 hR2=>?_)
   have fin:∀ (m2:Mp) (s2:AS),Mk false w [] w2 m2 a2.defers→Tr w m w2 m2→St w2 m2 (hp s2.K)→EnvOk w2 m2 s2.t a2.tmps→(ares T fn s2 fun _=>fK s2.K k) →
     a2.defers=[]∧∃ u1,({ c₀ with mode:=u' }::cs:List Frame)={ c₀ with mode:=u1 }::cs∧∃ v,(results fn a2.tmps).run P w2=.ok v w2∧((∃ v',Ending.returned v=.returned v')∧settle u1=.returning∧∃ m' K',Tr w m w2 m'∧St w2 m' (hp K')∧k K'):=by
    intro m2 s2 hd2 hT2 hS2 hE2 hQ2
    obtain⟨⟨v,hv⟩,hk⟩:=ares_nores (a:=a2) hT hS2 hE2 hQ2
    rw [fK_eq] at hk
    refine⟨?_,u',rfl,v,hv,⟨v,rfl⟩,hset,m2,s2.K,hT2,hS2,hk⟩
    generalize a2.defers=ds at hd2
    cases hd2 with
    | base=>rfl
    | mark hb=>simp at hb
   cases e with
   | normal=>obtain⟨_,m2,s2,hd2,hT2,hS2,hE2,hQ2⟩:=hR2;exact fin m2 s2 hd2 hT2 hS2 hE2 hQ2
   | ret=>obtain⟨_,m2,s2,hd2,hT2,hS2,hE2,hQ2⟩:=hR2;exact fin m2 s2 hd2 hT2 hS2 hE2 hQ2
   | exit n=>obtain⟨_,_,_,_,_,_,_,hQ2⟩:=hR2;exact hQ2.elim
   | panic ch=>obtain⟨_,_,_,_,_,_,_,_,_,_,_,hQ2⟩:=hR2;exact hQ2.elim
   | goto l=>exact hR2.elim
   | outgrown=>exact hR2.elim
  | exit n=>obtain⟨_,_,_,_,_,_,_,hQ2⟩:=hR;exact hQ2.elim
  | ret=>obtain⟨_,_,_,_,_,_,_,hQ2⟩:=hR;exact hQ2.elim
  | panic ch=>obtain⟨_,_,_,_,_,_,_,_,_,_,_,hQ2⟩:=hR;exact hQ2.elim
  | goto l=>exact hR.elim
  | outgrown=>exact hR.elim
 rcases hrd with hrd|⟨hrd,rfl,rfl⟩
 ·simp only [hrd,hd0,Act.put]
  exact key
 ·simp only [hrd,hd0,Act.put]
  subst hu
  exact key
theorem mk_false {w:World} {m:Mp} {ds:List Deferred} (h:Mk false we D0 w m ds):ds=D0:=by
 cases h with
 | base=>rfl
 | mark hb=>simp at hb
theorem bEnd_ok (hT:TabOk P T) {fn:Func} {k:AO→List ABlk→Prop} {e:Exit} {a:Act} {w:World} (h:Rel false N we me [] (bEnd T fn k) e a w):bodyPostM (FW none) nn P fn (Post we me k) e a w:=by
 cases e with
 | normal =>
  obtain⟨_,m',s',hd,h1,h2,h3,h4⟩:=h
  obtain⟨u,v,h5,h6,h7⟩:=ares_ok (s:=s') (a:=a) hT h2 h3 h4
  rw [fK_eq] at h7
  show LeavesInM (FW none) nn P fn a.tmps _ a.defers .returning w
  rw [mk_false hd]
  exact⟨u,h5,m',v,s'.K,h1,h2,h6,h7⟩
 | ret =>
  obtain⟨_,m',s',hd,h1,h2,h3,h4⟩:=h
  obtain⟨u,v,h5,h6,h7⟩:=ares_ok (s:=s') (a:=a) hT h2 h3 h4
  rw [fK_eq] at h7
  show LeavesInM (FW none) nn P fn a.tmps _ a.defers .returning w
  rw [mk_false hd]
  exact⟨u,h5,m',v,s'.K,h1,h2,h6,h7⟩
 | panic ch =>
  obtain⟨_,m',s',v,u,hd,rfl,h1,h2,h3,h4,h5⟩:=h
  simp only [bEnd,fV_eq,fK_eq] at h5
  show LeavesInM (FW none) nn P fn a.tmps _ a.defers (.panicking _) w
  rw [mk_false hd]
  exact⟨m',v,u,s'.K,rfl,h1,h2,h4,h5⟩
 | exit n=>obtain⟨_,_,_,_,_,_,_,h⟩:=h;exact h.elim
 | goto l=>exact h
 | outgrown=>exact h.elim
theorem dRes_ok (hT:TabOk P T) {fn:Func} {k:AO→List ABlk→Prop} {t:List (Nat×AV)} {K:List ABlk} {tmps:Array Value} {w:World} {m:Mp} (h:dRes T fn k t K) (hTr:Tr we me w m) (hS:St w m (hp K)) (hE:EnvOk w m t tmps) :
  LeavesInM (FW none) nn P fn tmps (Post we me k) [] .returning w:=by
 unfold dRes at h
 obtain⟨u,v,h5,h6,h7⟩:=ares_ok (s:=⟨t,K⟩) (a:={ tmps:=tmps,defers:=[] }) hT hS hE h
 rw [fK_eq] at h7
 exact⟨u,h5,m,v,K,hTr,hS,h6,h7⟩
theorem dEnd_ok (hT:TabOk P T) (hcall:CallOk P call) (hmix:P.follows .mixedOrders=true) {fn gf:Func} {g:FuncId} (hent:Ent P g) (hg:P.funcs[g]?=some gf) {caps:List AV} {U:Array Value} {k:AO→List ABlk→Prop} {w1:World} {m1:Mp}
  (hT1:Tr we me w1 m1) (hU:VL w1 m1 caps U) {e:Exit} {a:Act} {w:World} (h:Rel false N w1 m1 [{ target:=.fn (.func g) U,args:=#[] }] (dEnd T call fn gf caps k) e a w) :
  bodyPostM (FW none) nn P fn (Post we me k) e a w:=by
 have core:∀ (u:FrameMode) (m':Mp) (s':AS) (rv:AV),u≠.run→Mk false w1 [{ target:=.fn (.func g) U,args:=#[] }] w m' a.defers→Tr w1 m1 w m'→St w m' (hp s'.K)→EnvOk w m' s'.t a.tmps →
   recW T call gf caps s'.K rv (dRes T fn k s'.t) →
   (∀ (c₀:Frame) cs,c₀.mode=u→∃ x u',V w m' rv x∧settle u'=.returning∧(recoverD (c₀::cs)=some (x,{ c₀ with mode:=u' }::cs)∨(recoverD (c₀::cs)=none∧x=.nilIface∧u'=u))) →
   LeavesInM (FW none) nn P fn a.tmps (Post we me k) a.defers u w:=by
  intro u m' s' rv hu hd h1 h2 h3 h4 hrec
  rw [mk_false hd]
  refine⟨hu,.inr ⟨FW.depth,.func g,U,g,U,rfl,?_,fun _ _=>trivial,?_⟩⟩
  ·simp [invoke,callFunc_run hent]
  ·refine CallsDIn.mono (recW_ok hT hcall hmix hg h4 h2 ⟨hU.1,fun j hj hj'=>(hU.2 j hj hj').mono h1⟩ hrec) ?_
   rintro e u' w' ⟨⟨v,rfl⟩,hset,m2,K2,h5,h6,h7⟩
   show LeavesInM (FW none) nn P fn a.tmps (Post we me k) [] (settle u') w'
   rw [hset]
   exact dRes_ok hT h7 (hT1.trans (h1.trans h5)) h6 (h3.mono h5)
 have ret:∀ (m':Mp) (c₀:Frame) (cs:List Frame),c₀.mode=.returning→∃ x u',V w m' (.p .nili) x∧settle u'=.returning∧(recoverD (c₀::cs)=some (x,{ c₀ with mode:=u' }::cs)∨(recoverD (c₀::cs)=none∧x=.nilIface∧u'=.returning)) :=
  fun m' c₀ cs hc=>⟨.nilIface,.returning,.p _ _ .nili,rfl,.inr ⟨by simp [recoverD,hc],rfl,rfl⟩⟩
 cases e with
 | normal =>
  obtain⟨_,m',s',hd,h1,h2,h3,h4⟩:=h
  exact core .returning m' s' _ (by simp) hd h1 h2 h3 h4 (ret m')
 | ret =>
  obtain⟨_,m',s',hd,h1,h2,h3,h4⟩:=h
  exact core .returning m' s' _ (by simp) hd h1 h2 h3 h4 (ret m')
 | panic ch =>
  obtain⟨_,m',s',v,u,hd,rfl,h1,h2,h3,h4,h5⟩:=h
  exact core (.panicking [{ v:=u,recovered:=false }]) m' s' v (by simp) hd h1 h2 h3 h5 fun c₀ cs hc=>⟨u,.panicking [{ v:=u,recovered:=true }],h4,rfl,.inl (by simp [recoverD,hc])⟩
 | exit n=>obtain⟨_,_,_,_,_,_,_,h⟩:=h;exact h.elim
 | goto l=>exact h
 | outgrown=>exact h.elim
theorem defer_exec {o:Oper} {d:Nat} (h:deferOf o=some d) {ρ:Operand→Value} {g:FuncId} {B:Array Value} (hv:ρ (.tmp d)=.func (.func g) #[] B) (w:World) :
  o.dst=none∧o.guard=none∧(execOp ρ o).run P w=.ok (.defer { target:=.fn (.func g) B,args:=#[] }) w:=by
 unfold deferOf at h
 split at h
 case h_2=>simp at h
 rename_i c hop
 split at h
 case h_2=>simp at h
 rename_i x hc
 split at h
 case h_2=>simp at h
 rename_i hargs
 split at h
 case h_2=>simp at h
 rename_i hdst
 split at h
 case h_2=>simp at h
 rename_i hg
 simp only [Option.some.injEq] at h
 subst h
 have hargs:c.args=#[]:=by apply Array.ext';simpa using hargs
 refine⟨hdst,hg,?_⟩
 unfold execOp
 simp only [hop]
 simp [resolve,hc,hv,hargs,Deferred.ofValue]
theorem abodyD_ok (hT : TabOk P T) (hcall : CallOk P call) (hmix : P.follows .mixedOrders = true) {f : FuncId} {fn : Func} (hf : P.funcs[f]? = some fn) (hn : (fn.name == "runtime.NumGoroutine") = false) {args : List AV} {K : List ABlk} {k : AO → List ABlk → Prop}
  (h:abodyD T call fn args K k):ACalls P f args K k:=by
 unfold abodyD at h
 split at h
 case h_2=>exact h.elim
 rename_i c1 c2 c3 id ops y hb
 split at h
 case h_2=>exact h.elim
 rename_i o1 o2 hops
 split at h
 case h_2=>exact h.elim
 rename_i d hdo hg1
 split at h
 case h_2=>exact h.elim
 rename_i hchk
 simp only [Bool.and_eq_true] at hchk
 obtain⟨⟨⟨⟨hle,hn1⟩,hn2⟩,hn3⟩,hn4⟩:=hchk
 have hle:args.length≤fn.ntmps:=by have:=Nat.le_of_ble_eq_true hle;rwa [len_eq] at this
 refine⟨⟨fn,hf,hn,by rw [hb];rfl⟩,fun w m Args hS hA=>(callsIn_wide (n:=0)).1 (callsIn_of_wp_marks hf hb trivial ?_)⟩
 show Code.wpIn (FW none) 0 P _ (bodyPostM (FW none) 0 P fn (Post w m k)) _ w
 rw [fK_eq] at h
 have hkb:∀ r,len K≤r→m.L r=.absent:=fun r hr=>hS.absent (by
  simp only [hp,nth_eq]
  rw [len_eq] at hr
  rw [List.getElem?_eq_none hr])
 have hD0:∀ d∈([]:List Deferred),∀ D,d.target≠.collected D:=fun d hd=>by simp at hd
 refine wpIn_seq (wpIn_mono (awp_ok (ro:=none) (bm:=false) (D0:=[]) (we:=w) (me:=m) hT hcall hmix hkb hD0 c1 _ _ h w m _ (Tr.refl w m) hS (EnvOk.frame hA _) (by simp;have:=hA.1;omega) .base (.inr hn1)) fun e a1 w1 hR=>?_)
 cases e with
 | exit n=>exact bEnd_ok (nn:=0) (e:=.exit n) (N:=fn.ntmps) hT (show Rel false fn.ntmps w m [] (bEnd T fn k) (.exit n) a1 w1 from hR)
 | ret=>exact bEnd_ok (nn:=0) (e:=.ret) (N:=fn.ntmps) hT (show Rel false fn.ntmps w m [] (bEnd T fn k) .ret a1 w1 from hR)
 | panic ch=>exact bEnd_ok (nn:=0) (e:=.panic ch) (N:=fn.ntmps) hT (show Rel false fn.ntmps w m [] (bEnd T fn k) (.panic ch) a1 w1 from hR)
 | goto l=>exact hR.elim
 | outgrown=>exact hR.elim
 | normal =>
 obtain⟨hN1,m1,s1,hd1,hT1,hS1,hE1,h1⟩:=hR
 refine wpIn_seq (wpIn_mono (awp_ok (ro:=none) (bm:=false) (D0:=[]) (we:=w) (me:=m) hT hcall hmix hkb hD0 c2 _ _ h1 w1 m1 a1 hT1 hS1 hE1 hN1 hd1 (.inr hn2)) fun e a2 w2 hR=>?_)
 cases e with
 | exit n=>exact bEnd_ok (nn:=0) (e:=.exit n) (N:=fn.ntmps) hT (show Rel false fn.ntmps w m [] (bEnd T fn k) (.exit n) a2 w2 from hR)
 | ret=>exact bEnd_ok (nn:=0) (e:=.ret) (N:=fn.ntmps) hT (show Rel false fn.ntmps w m [] (bEnd T fn k) .ret a2 w2 from hR)
 | panic ch=>exact bEnd_ok (nn:=0) (e:=.panic ch) (N:=fn.ntmps) hT (show Rel false fn.ntmps w m [] (bEnd T fn k) (.panic ch) a2 w2 from hR)
 | goto l=>exact hR.elim
 | outgrown=>exact hR.elim
 | normal =>
 obtain⟨hN2,m2,s2,hd2,hT2,hS2,hE2,h2⟩:=hR
 refine wpIn_seq (wpIn_mono (awp_ok (ro:=none) (bm:=false) (D0:=[]) (we:=w) (me:=m) hT hcall hmix hkb hD0 c3 _ _ h2 w2 m2 a2 hT2 hS2 hE2 hN2 hd2 (.inr hn3)) fun e a3 w3 hR=>?_)
 cases e with
 | exit n=>exact bEnd_ok (nn:=0) (e:=.exit n) (N:=fn.ntmps) hT (show Rel false fn.ntmps w m [] (bEnd T fn k) (.exit n) a3 w3 from hR)
 | ret=>exact bEnd_ok (nn:=0) (e:=.ret) (N:=fn.ntmps) hT (show Rel false fn.ntmps w m [] (bEnd T fn k) .ret a3 w3 from hR)
 | panic ch=>exact bEnd_ok (nn:=0) (e:=.panic ch) (N:=fn.ntmps) hT (show Rel false fn.ntmps w m [] (bEnd T fn k) (.panic ch) a3 w3 from hR)
 | goto l=>exact hR.elim
 | outgrown=>exact hR.elim
 | normal =>
 obtain⟨hN3,m3,s3,hd3,hT3,hS3,hE3,h3⟩:=hR
 simp only [wSeqK,dMid] at h3
 obtain⟨hb1,h3⟩:=bound_ok h3
 refine wpIn_seq (wpIn_region_list ?_)
 rw [hops]
 unfold wpListIn
 rw [if_pos (by simp [Region.wanted,hg1])]
 refine⟨fun _ _=>trivial,?_⟩
 rw [show (FW none).round=none from rfl,Oper.semAt_none]
 refine aop_ok (ro:=none) hT hcall hS3 hE3 (fun w4 m4 v K4 u hT4 hS4 hV4 h4=>?_) (fun w' m' v K' u _ _ _ h4=>h4.elim) h3
 have hE4:=(hE3.mono hT4).put (a:=a3) (d:=o1.dst) (fun x hx=>by rw [hN3];exact hb1 x hx) hV4
 have hvd:=hE4 d
 split at h4
 case h_2=>exact h4.elim
 rename_i g first caps hlk
 split at h4
 case h_2=>exact h4.elim
 split at h4
 case h_2=>exact h4.elim
 rename_i gf hgf
 split at h4
 case h_2=>exact h4.elim
 rename_i hbody
 obtain⟨hg2,hg3⟩:=hT.f g gf hgf
 rw [hlk] at hvd
 generalize hud:(a3.put o1.dst u).tmps.getD d undef=ud at hvd
 cases hvd with
 | fn _ _ _ A B hA' hB h1 h2' =>
 have hA0:A=#[]:=by
  have:A.size=0:=by simpa using hA'.symm
  exact Array.eq_empty_of_size_eq_zero this
 subst hA0
 have hev:(a3.put o1.dst u).eval (.tmp d)=.func (.func g) #[] B:=hud
 obtain⟨hx1,hx2,hx3⟩:=defer_exec (P:=P) hdo hev w4
 unfold wpListIn
 rw [if_pos (by simp [Region.wanted,hx2])]
 refine⟨fun _ _=>trivial,?_⟩
 rw [show (FW none).round=none from rfl,Oper.semAt_none,hx3,Oper.uponIn_defer,hx1]
 show Code.wpIn _ _ _ y _ { a3.put o1.dst u with defers:=_ } w4
 have hda:(a3.put o1.dst u).defers=[]:=by rw [put_defers];exact mk_false hd3
 rw [hda]
 have hkb4:∀ r,len K4≤r→m4.L r=.absent:=fun r hr=>hS4.absent (by
  simp only [hp,nth_eq]
  rw [len_eq] at hr
  rw [List.getElem?_eq_none hr])
 have hent:Ent P g:=⟨gf,hg2,hg3,hbody⟩
 refine wpIn_mono (awp_ok (ro:=none) (bm:=false) (D0:=[{ target:=.fn (.func g) B,args:=#[] }]) (we:=w4) (me:=m4) hT hcall hmix hkb4 (fun d hd D=>by
  simp only [List.mem_singleton] at hd;subst hd;simp) y _ _ h4 w4 m4 _ (Tr.refl w4 m4) hS4 hE4 (by rw [put_size];exact hN3) .base (.inr hn4)) fun e a' w' hR=>dEnd_ok hT hcall hmix hent hg2 (hT3.trans hT4) ⟨hB,h2'⟩ hR
end
end Go.AE
namespace Go.Proofs.YtcmepkfefoidcaaGreatDoor
open Go.AE Go.Ru
set_option maxRecDepth 100000
def cStd (S:Int→PS→R Int):AC:=fun args K k=>∃ e ts ns mo X,args=[pp]∧K=encP e ts ns 0 mo++X∧Fine 40 ts ns∧After e (S e ⟨ts,ns,mo⟩) intV 0 X k
def pbW (e:Int) (ts:List Tok) (nv:AV) (mo:Int):ABlk:=.box 158 [.p (.sl 4 (ts.length+1) (encs e ts)),nv,intV 0,intV mo]
def cWhat (S:Int→PS→R Int):AC:=fun args K k=>∃ (e:Int) (ts:List Tok) (y0 y1 y2 y3:ABlk),args=[.ptr 4 0 1 0 0]∧K=[y0,y1,y2,y3,pbW e ts (.p .nils) 0]∧Fine 40 ts [] ∧
 (∀ a ts' ns' mo',S e ⟨ts,[],0⟩=.ok a ⟨ts',ns',mo'⟩→k (.ret (intV a)) [y0,y1,y2,y3,pbW e ts' (.p (.sl 5 ns'.length (nodeF ns'))) mo',.dead]) ∧
 (∀ a er,S e ⟨ts,[],0⟩=.bad a er→k (.pan (wrongV a er)) [y0,y1,y2,y3,.dead,.dead])
theorem ups_pvs (n:Nat) (l:List PV):AV.ups n (pvs l)=pvs l:=by
 induction l with
 | nil=>rfl
 | cons a l ih=>simp [pvs,AV.ups,AV.up,ih]
theorem what_ok {f:FuncId} {S:Int→PS→R Int} (h0:COk f (cStd S)):COk f (cWhat S):=by
 rintro args K k ⟨e,ts,y0,y1,y2,y3,rfl,rfl,hf,hk1,hk2⟩
 refine ACalls.post (k:=fun ao K1=>(∃ a ts' ns' mo',S e ⟨ts,[],0⟩=.ok a ⟨ts',ns',mo'⟩∧ao=.ret (intV a)∧K1=[y0,y1,y2,y3]++upsB 4 (encP e ts' ns' 0 mo')) ∨
  (∃ a er,S e ⟨ts,[],0⟩=.bad a er∧ao=.pan (wrongV a er)∧K1=[y0,y1,y2,y3,.dead,.dead])) ?_ ?_
 ·refine ACalls.nilPre (K':=[y0,y1,y2,y3,pbW e ts (.slr 5 0 0 0) 0]) 82 5 (fun i=>pvs (nodeF [] i)) ⟨.inl (ABlk.le_refl _),.inl (ABlk.le_refl _),.inl (ABlk.le_refl _),.inl (ABlk.le_refl _),.inr ⟨_,_,_,rfl,rfl,.inl (AV.le_refl _),.inr ⟨rfl,rfl⟩,.inl (AV.le_refl _),.inl (AV.le_refl _),trivial⟩,trivial⟩ ?_
  refine ACalls.shift (n:=4) (Y:=[y0,y1,y2,y3]) (K1:=[pbW e ts (.slr 5 0 0 0) 0,.arr 82 5 0 0 (fun i=>pvs (nodeF [] i))]) rfl ⟨trivial,trivial,trivial⟩ ?_
  refine ACalls.pre (args':=[pp]) (K':=encP e ts [] 0 0++[]) ?_ (fun w m Args hS hV=>⟨m,Tr.refl w m,hS.les ?_,hV⟩)
  ·refine h0 _ _ _ ⟨e,ts,[],0,[],rfl,rfl,hf,⟨fun a ts' ns' mo' hr=>?_,fun a er hr=>?_⟩⟩
   ·exact⟨⟨trivial,trivial,trivial⟩,.inl ⟨a,ts',ns',mo',hr,rfl,rfl⟩⟩
   ·exact⟨⟨trivial,trivial,trivial⟩,.inr ⟨a,er,hr,rfl,rfl⟩⟩
  ·exact⟨ABlk.le_refl _,ABlk.arr_eq rfl fun i hi=>by simp at hi,trivial⟩
 ·rintro ao K1 (⟨a,ts',ns',mo',hr,rfl,rfl⟩|⟨a,er,hr,rfl,rfl⟩)
  ·refine⟨intV a,_,Wk1.fz (r:=5) (ty:=82) (sz:=5) (n:=ns'.length) (f:=fun i=>AV.ups 4 (pvs (nodeF ns' i))) (nodeF ns') rfl (fun i _=>ups_pvs _ _) ?_ (AV.le_refl _),hk1 a ts' ns' mo' hr⟩
   exact⟨.inl (ABlk.le_refl _),.inl (ABlk.le_refl _),.inl (ABlk.le_refl _),.inl (ABlk.le_refl _),.inr ⟨_,_,_,rfl,rfl,.inl (AV.le_refl _),.inr ⟨rfl,rfl⟩,.inl (AV.le_refl _),.inl (AV.le_refl _),trivial⟩,.inl (ABlk.le_refl _),trivial⟩
  ·exact⟨_,_,Wk1.refl _ _ _,hk2 a er hr⟩
inductive RR where
 | bad (at_ err:Int)
 | ok (ns:List Nd) (root mo:Int)
def readS (S:Int→PS→R Int) (s:Bs):RR :=
 if s.length>20000 then .bad 0 7 else match cutT s with
 | .bad a=>.bad a 2
 | .ok ts=>match S s.length ⟨ts,[],0⟩ with
  | .bad a er=>.bad a er
  | .ok root s'=>match s'.ts with
   | t::_=>.bad t.at_ 2
   | []=>if 4000<s'.ns.length then .bad 0 8 else if 40<depthS s'.ns root then .bad 0 6 else .ok s'.ns root s'.mo
def readV:RR→AV
 | .bad a er=>.tup [.agg [.p .nils,intV 0],intV 0,intV a,intV er]
 | .ok ns root mo=>.tup [treeV ns root,intV mo,intV 0,intV 0]
theorem cutS_len:∀ (n:Nat) (r:Bs) (i:Nat) (l:List Tok),cutS n r i=.ok l→l.length≤r.length:=by
 intro n
 induction n with
 | zero=>intro r i l h;simp only [cutS,CR.ok.injEq] at h;subst h;exact Nat.zero_le _
 | succ n ih =>
  intro r i l h
  cases r with
  | nil=>simp only [cutS,CR.ok.injEq] at h;subst h;exact Nat.zero_le _
  | cons c r' =>
   simp only [cutS] at h
   split at h
   ·have:=ih _ _ _ h
    simp only [List.length_drop] at this;omega
   split at h
   ·have:=ih _ _ _ h
    have h2:=(List.dropWhile_sublist (fun c=>!(c==(10:UInt8))) (l:=c::r')).length_le
    omega
   split at h
   ·rename_i hp
    split at h
    ·cases h
    ·rename_i k v hw
     cases hc:cutS n ((c::r').drop (runS partsT (c::r'))) (i+runS partsT (c::r')) with
     | bad a=>rw [hc] at h;simp [CR.cons] at h
     | ok l' =>
      rw [hc] at h
      simp only [CR.cons,CR.ok.injEq] at h
      subst h
      have:=ih _ _ _ hc
      simp only [List.length_drop,List.length_cons] at this ⊢;omega
   ·split at h
    ·cases h
    ·rename_i m hm
     cases hc:cutS n ((c::r').drop (m+1)) (i+(m+1)) with
     | bad a=>rw [hc] at h;simp [CR.cons] at h
     | ok l' =>
      rw [hc] at h
      simp only [CR.cons,CR.ok.injEq] at h
      subst h
      have:=ih _ _ _ hc
      simp only [List.length_drop,List.length_cons] at this ⊢;omega
theorem call_okD {G:AG} (hG:GOk Tryz.prog G) (n:Nat) {f:FuncId} {fn:Func} (hf:T0.f.get f=some fn) {args:List AV} {K:List ABlk} {k:AO→List ABlk→Prop} (h:abodyD T0 (acall T0 G n) fn args K k):ACalls Tryz.prog f args K k:=by
 obtain⟨h1,h2⟩:=tabOk.f f fn hf
 exact abodyD_ok tabOk (acall_ok tabOk (Checked.mixed Tryz.checked) hG n) (Checked.mixed Tryz.checked) h1 h2 h
theorem frame0D {G:AG} (hG:GOk Tryz.prog G) (n:Nat) {f:FuncId} {fn:Func} (hf:T0.f.get f=some fn) {args:List AV} {X:List ABlk} {k:AO→List ABlk→Prop} (hcl:AV.cls 0 args=true)
  (h:∀ Q:AO→List ABlk→Prop,(∀ v K',v.cl 0=true→k (.ret v) X→Q (.ret v) K')→abodyD T0 (acall T0 G n) fn args [] Q):ACalls Tryz.prog f args X k:=by
 refine (ACalls.frame (K0:=[]) (X:=X) (k:=fun ao K1=>k ao (K1++X)) hcl (fun r h=>by simp at h) (call_okD hG n hf (h _ ?_))).mono fun ao K ⟨K1,h1,h2⟩=>by subst h1;exact h2
 intro v K' h1 h2
 refine⟨h1,by simp,fun r hr=>by simp at hr,?_⟩
 show k (.ret v) (takeN K' 0++X)
 rw [takeN_zero];exact h2
def gRd (f:FuncId) (S:Int→PS→R Int):AG:=gput 102 cCutT (gput f (cWhat S) (gput 105 cDepth g0))
theorem gRd_ok {f:FuncId} {S:Int→PS→R Int} (h0:COk f (cStd S)):GOk Tryz.prog (gRd f S):=gput_ok cutT_ok (gput_ok (what_ok h0) (gput_ok depth_ok g0_ok))
def cRead (f:FuncId) (S:Int→PS→R Int):AC:=fun args K k=>∃ s,args=[.p (.str s),.p (.fn f)]∧s.length<1000000∧k (.ret (readV (readS S s))) K
theorem readP_ok (S:Int→PS→R Int) (hS:∀ e ts a s',List.length ts≤20000→S e ⟨ts,[],0⟩=.ok a s'→s'.ns.length<1000000) (h0:COk 67 (cStd S)) :
  COk 66 (cRead 67 S):=by
  rintro args K k ⟨s,rfl,hs,hk⟩
  refine frame0D (gRd_ok h0) 19 rfl rfl fun Q hr=>?_
  conv=>whnf
  refine⟨s,rfl,hs,fun h=>?_,fun h=>?_⟩
  ·have e:readS S s=.bad 0 7:=by unfold readS;rw [if_pos h]
   rw [e] at hk
   conv=>whnf
   repeat ((refine And.intro ?_ ?_);(focus ((conv=>whnf);done));conv=>whnf)
   exact hr _ _ rfl hk
  unfold readS at hk
  rw [if_neg (by omega)] at hk
  cases hc:cutT s with
  | bad a =>
   rw [hc] at hk
   conv=>whnf
   repeat ((refine And.intro ?_ ?_);(focus ((conv=>whnf);done));conv=>whnf)
   exact hr _ _ rfl hk
  | ok ts =>
   rw [hc] at hk
   have hln:ts.length≤s.length:=cutS_len _ _ _ _ hc
   simp only at hk
   conv=>whnf
   refine⟨s.length,ts,_,_,_,_,rfl,rfl,⟨Nat.le_refl _,by simp only [List.length_nil];omega⟩,fun a ts2 ns2 mo2 hp=>?_,fun a er hp=>?_⟩
   ·have hns:=hS _ _ _ _ (by omega) hp
    rw [hp] at hk
    simp only at hk hns
    cases ts2 with
    | cons t r =>
     obtain⟨tk,tn,ta,tx⟩:=t
     cases tk <;>
     ·conv=>whnf
      refine⟨by simp<;>omega,?_⟩
      conv=>whnf
      refine⟨by simp<;>omega,?_⟩
      conv=>whnf
      repeat ((refine And.intro ?_ ?_);(focus ((conv=>whnf);done));conv=>whnf)
      exact hr _ _ rfl hk
    | nil =>
     conv=>whnf
     refine⟨by simp,?_⟩
     conv=>whnf
     have hd1:decide ((ns2.length:Int)>4000)=decide (4000<ns2.length):=by
      by_cases h:4000<ns2.length
      ·rw [decide_eq_true h,decide_eq_true (by omega)]
      ·rw [decide_eq_false h,decide_eq_false (by omega)]
     refine two_intro (fun h1=>?_) (fun h1=>?_)
     ·have h1:=of_decide_eq_true (hd1▸h1)
      rw [if_pos h1] at hk
      conv=>whnf
      repeat ((refine And.intro ?_ ?_);(focus ((conv=>whnf);done));conv=>whnf)
      exact hr _ _ rfl hk
     have h1:=of_decide_eq_false (hd1▸h1)
     rw [if_neg h1] at hk
     conv=>whnf
     refine⟨ns2,a,rfl,hns,?_⟩
     conv=>whnf
     have hd2:decide (((depthS ns2 a:Nat):Int)>40)=decide (40<depthS ns2 a):=by
      by_cases h:40<depthS ns2 a
      ·rw [decide_eq_true h,decide_eq_true (by omega)]
      ·rw [decide_eq_false h,decide_eq_false (by omega)]
     refine two_intro (fun h2=>?_) (fun h2=>?_)
     ·have h2:=of_decide_eq_true (hd2▸h2)
      rw [if_pos h2] at hk
      conv=>whnf
      repeat ((refine And.intro ?_ ?_);(focus ((conv=>whnf);done));conv=>whnf)
      exact hr _ _ rfl hk
     have h2:=of_decide_eq_false (hd2▸h2)
     rw [if_neg h2] at hk
     conv=>whnf
     repeat ((refine And.intro ?_ ?_);(focus ((conv=>whnf);done));conv=>whnf)
     exact hr _ _ rfl hk
   ·rw [hp] at hk
    simp only at hk
    conv=>whnf
    repeat ((refine And.intro ?_ ?_);(focus ((conv=>whnf);done));conv=>whnf)
    exact hr _ _ rfl hk
theorem programS_len (e:Int) (ts:List Tok) (a:Int) (s':PS) (hl:ts.length≤20000) (h:programS e ⟨ts,[],0⟩=.ok a s'):s'.ns.length<1000000:=by
 have:Okk (programS e ⟨ts,[],0⟩) (fun s'=>s'.ns.length<1000000):=by
  unfold programS
  refine Okk.bind (vars_le e 2 ⟨ts,[],0⟩) fun l s1 h1=>Okk.bind (procsL_le e 40 _ l s1) fun l2 s2 h2=>(put_len _ s2).imp fun s3 h3=>?_
  simp only [Lw,List.length_nil] at h1 h2 h3
  omega
 exact this a s' h
abbrev proS (s:Bs):RR:=readS programS s
def gPr:AG:=gput 66 (cRead 67 programS) g0
theorem gPr_ok:GOk Tryz.prog gPr:=gput_ok (readP_ok programS programS_len program_ok) g0_ok
def topV:RR→AV
 | .bad a er=>.tup [.agg [.p .nils,intV 0],intV a,intV er]
 | .ok ns root _=>.tup [treeV ns root,intV 0,intV 0]
def cTop (S:Bs→RR):AC:=fun args K k=>∃ s,args=[.p (.str s)]∧s.length<1000000∧k (.ret (topV (S s))) K
theorem Program_ok:COk 42 (cTop proS):=by
 rintro args K k ⟨s,rfl,hs,hk⟩
 refine frame0P gPr_ok 19 rfl fun Q hr=>?_
 conv=>whnf
 refine⟨s,rfl,hs,?_⟩
 cases h:readS programS s with
 | bad a er =>
  rw [show proS s=_ from h] at hk
  conv=>whnf
  exact hr _ _ rfl hk
 | ok ns root mo =>
  rw [show proS s=_ from h] at hk
  conv=>whnf
  exact hr _ _ rfl hk
end Go.Proofs.YtcmepkfefoidcaaGreatDoor
namespace Go.Ru
def smallS (m:Nat) (ns:List Nd):Bool:=decide (ns.length≤m)&&ns.all fun n=>decide (n.kids.length≤m)&&decide (n.tx.length≤200)
end Go.Ru
namespace Go.Proofs.YtcmepkfefoidcaaGreatDoor
open Go.AE Go.Ru
set_option maxRecDepth 100000
set_option maxHeartbeats 1000000
theorem small_tame {m:Nat} {ns:List Nd} (hm:m<1000000) (h:smallS m ns=true):Tame ns:=by
 simp only [smallS,Bool.and_eq_true,decide_eq_true_eq,List.all_eq_true] at h
 refine⟨by omega,fun i=>?_⟩
 by_cases hi:i<ns.length
 ·have:=(h.2 ns[i] (List.getElem_mem hi)).2
  rw [List.getD_eq_getElem?_getD,List.getElem?_eq_getElem hi]
  simp only [Option.getD_some];omega
 ·rw [List.getD_eq_getElem?_getD,List.getElem?_eq_none (by omega)]
  exact Nat.lt_of_le_of_lt (Nat.zero_le _) (by decide:0<1000000)
def cShown7:AC:=fun args K k=>args=[]∧k (.ret (.p (.bool true))) K
def eCheck:AC:=fun args K k=>∃ ns root a e,args=[treeV ns root]∧Tame ns∧checkTree ns root=(a,e)∧k (.ret (.tup [intV a,intV e])) K
theorem eCheck_ok:COk 47 eCheck:=by
 rintro args K k ⟨ns,root,a,e,h1,h2,h3,h4⟩
 exact check_ok args K k ⟨ns,root,h1,h2,by rw [h3];exact h4⟩
end Go.Proofs.YtcmepkfefoidcaaGreatDoor
namespace Go.Ru
end Go.Ru
namespace Go.Proofs.YtcmepkfefoidcaaGreatDoor
open Go.AE Go.Ru
set_option maxRecDepth 100000
set_option maxHeartbeats 1000000
def tbox (ns:List Nd) (root:Int):ABlk:=.box 40 [.p (.sl 5 ns.length (nodeF ns)),.p (.int .i64 root)]
def cRaise (m:Nat):AC:=fun args K k=>∃ ns root i,args=[treeV ns root,intV ((i:Nat):Int)]∧Std ns root∧i<ns.length∧i<m∧k (.ret (.p (.bool (raisesN ns m i)))) K
def cRaise1 (m:Nat):AC:=fun args K k=>∃ ns root q X,args=[intV q,.ptr 0 0 1 0 0]∧K=tbox ns root::X∧Std ns root∧InR ns q∧q<m∧k (.ret (.p (.bool (exB (nd ns q.toNat).k&&raisesN ns m q.toNat)))) (tbox ns root::X)
theorem raise1_ok {m:Nat} (h:COk 133 (cRaise m)):COk 187 (cRaise1 m):=by
 rintro args K k ⟨ns,root,q,X,rfl,rfl,st,⟨h1,h2⟩,hm,hk⟩
 obtain⟨i,rfl⟩:∃ i:Nat,q=(i:Int):=⟨q.toNat,by omega⟩
 refine frameG (K0:=[tbox ns root]) (X:=X) (gput_ok h g0_ok) 19 rfl ⟨rfl,trivial⟩ fun Q hr=>?_
 conv=>whnf
 refine⟨⟨by omega,by omega,rfl⟩,?_⟩
 conv=>whnf
 have hno:exB (nd ns i).k=false→k (.ret (.p (.bool false))) (tbox ns root::X):=fun hx=>by
  rw [Int.toNat_natCast,hx] at hk;exact hk
 have hyes:exB (nd ns i).k=true→k (.ret (.p (.bool (raisesN ns m i)))) (tbox ns root::X):=fun hx=>by
  rw [Int.toNat_natCast,hx] at hk;exact hk
 refine two_dec (fun h3=>?_) (fun h3=>?_)
 ·have h3:(nd ns i).k≥20:=h3
  conv=>whnf
  refine two_dec (fun h4=>?_) (fun h4=>?_)
  ·have h4:(nd ns i).k≤27:=h4
   conv=>whnf
   refine⟨ns,root,i,rfl,st,by omega,by omega,?_⟩
   conv=>whnf
   exact hr _ _ _ _ rfl rfl ⟨rfl,trivial⟩ (AV.le_refl _) (lesK.refl _) (hyes (exB_iff.2 ⟨h3,h4⟩))
  ·have h4:¬ (nd ns i).k≤27:=h4
   conv=>whnf
   exact hr _ _ _ _ rfl rfl ⟨rfl,trivial⟩ (AV.le_refl _) (lesK.refl _) (hno (by simp [exB,h4]))
 ·have h3:¬ (nd ns i).k≥20:=h3
  conv=>whnf
  exact hr _ _ _ _ rfl rfl ⟨rfl,trivial⟩ (AV.le_refl _) (lesK.refl _) (hno (by simp [exB];omega))
def rsP (ns:List Nd) (m:Nat) (q:Int):Bool:=exB (nd ns q.toNat).k&&raisesN ns m q.toNat
def cIdxRs (m:Nat):AC:=fun args K k=>∃ ns root l X,args=[intsV l,.fn 187 [] [.ptr 0 0 1 0 0]]∧K=tbox ns root::X∧Std ns root∧List.length l<1000000∧(∀ q∈l,InR ns q∧q<m) ∧
 k (.ret (intV (firstIx (rsP ns m) 0 l))) (tbox ns root::X)
theorem idxRs_ok {m:Nat} (h:COk 133 (cRaise m)):COk 216 (cIdxRs m):=by
 rintro args K k ⟨ns,root,l,X,rfl,rfl,st,hl,hq,hk⟩
 refine frameG (K0:=[tbox ns root]) (X:=X) (gput_ok (raise1_ok h) g0_ok) 19 rfl ⟨rfl,trivial⟩ fun Q hr=>?_
 conv=>whnf
 refine loop_up (ι:=Nat) [0,1,7] (fun i=>[(8,intV i)]) (fun _=>[]) (fun i=>i≤l.length∧firstIx (rsP ns m) i (l.drop i)=firstIx (rsP ns m) 0 l) (fun i=>l.length - i) 0 ⟨AV.le_refl _,trivial⟩ trivial ⟨Nat.zero_le _,rfl⟩ ?_
 rintro Y hle i ⟨hi,he⟩ ih
 conv=>whnf
 refine two_dec (fun h=>?_) (fun h=>?_)
 ·have h:i<l.length:=by have h:(i:Int)<(l.length:Int):=h;omega
  have hw1:=wzz (i:=i) (by omega)
  rw [List.drop_eq_getElem_cons h] at he
  have e1:l.getD i 0=l[i]:=by simp [h]
  have hm:=hq _ (List.getElem_mem h)
  rw [← e1] at he hm
  conv=>whnf
  refine⟨⟨by omega,by omega,rfl⟩,?_⟩
  conv=>whnf
  refine⟨ns,root,l.getD i 0,[],rfl,rfl,st,hm.1,hm.2,?_⟩
  conv=>whnf
  refine two_intro (fun h2=>?_) (fun h2=>?_)
  ·have h2:rsP ns m (l.getD i 0)=true:=h2
   simp only [firstIx,h2] at he
   conv=>whnf
   exact hr _ _ _ _ rfl rfl ⟨rfl,trivial⟩ (AV.le_refl _) (lesK.refl _) (he▸hk)
  ·have h2:rsP ns m (l.getD i 0)=false:=h2
   simp only [firstIx,h2] at he
   conv=>whnf
   refine hle _ _ (Le.env ?_ ?_) (ih (i+1) (by omega) ⟨by omega,he⟩)
   ·skip
    repeat' (first|exact trivial|((conv=>whnf);first|exact trivial|refine⟨AV.le_refl _,?_⟩|refine⟨ABlk.le_refl _,?_⟩|(refine⟨AV.le_of_eq ?_,?_⟩;focus ((first|exact congrArg intV hw1|fail);done))|(refine⟨ABlk.le_of_eq ?_,?_⟩;focus ((first|exact congrArg intV hw1|fail);done))|fail)|fail)
   ·skip
    repeat' (first|exact trivial|((conv=>whnf);first|exact trivial|refine⟨AV.le_refl _,?_⟩|refine⟨ABlk.le_refl _,?_⟩|fail)|fail)
 ·obtain rfl:i=l.length:=by have h:¬ (i:Int)<(l.length:Int):=h;omega
  rw [List.drop_length] at he
  rw [← he] at hk
  conv=>whnf
  exact hr _ _ _ _ rfl rfl ⟨rfl,trivial⟩ (AV.le_refl _) (lesK.refl _) hk
theorem raise_ok:∀ m,COk 133 (cRaise m):=by
 intro m
 induction m with
 | zero=>rintro args K k ⟨ns,root,i,h1,h2,h3,h4,h5⟩;omega
 | succ m ihm =>
 rintro args K k ⟨ns,root,i,rfl,st,hi,him,hk⟩
 have hkid:∀ q∈(nd ns i).kids,InR ns q∧q<m:=fun q hq=>by
  obtain⟨a,b,_⟩:=st.kid i hi q hq
  exact⟨⟨a,by omega⟩,by omega⟩
 have hmany:=st.many i hi
 have hlen:=st.len
 have hyes:riseB (nd ns i)=true→k (.ret (.p (.bool true))) K:=fun hx=>by
  simp only [raisesN,hx,Bool.true_or] at hk;exact hk
 have hno:riseB (nd ns i)=false→k (.ret (.p (.bool ((nd ns i).kids.any (rsP ns m))))) K:=fun hx=>by
  simp only [raisesN,hx,Bool.false_or] at hk;exact hk
 refine frame0P (gput_ok (idxRs_ok ihm) g0_ok) 19 rfl fun Q hr=>?_
 conv=>whnf
 refine⟨⟨by omega,by omega,rfl⟩,?_⟩
 conv=>whnf
 repeat' (first|(refine two_eq (fun h=>?_) (fun h=>?_)<;>conv=>whnf)|(refine⟨ns,root,(nd ns i).kids,_,rfl,rfl,st,by omega,hkid,?_⟩;conv=>whnf)|fail)
 all_goals try (exact hr _ _ rfl (hyes (by clear hr hk hno hyes;simp_all [riseB,nd])))
 all_goals first
  | (refine hr _ _ rfl (ret_eq (hno (by clear hr hk hno hyes;simp_all [riseB,nd])) (congrArg (fun b=>AV.p (.bool b)) ?_));exact (firstIx_any _ _ _).symm)
def eRaise:AC:=fun args K k=>∃ ns root i v,args=[treeV ns root,intV ((i:Nat):Int)]∧Std ns root∧i<ns.length∧raisesF ns i=v∧k (.ret (.p (.bool v))) K
theorem eRaise_ok:COk 133 eRaise:=by
 rintro args K k ⟨ns,root,i,v,h1,h2,h3,rfl,h4⟩
 exact raise_ok (i+1) args K k ⟨ns,root,i,h1,h2,h3,by omega,h4⟩
theorem check_right {ns:List Nd} {root a:Int} (h:checkTree ns root=(a,0)):rightS ns root=true:=by
 cases hr:rightS ns root with
 | true=>rfl
 | false=>simp [checkTree,hr] at h
end Go.Proofs.YtcmepkfefoidcaaGreatDoor
namespace Go.Ru
def Inn (ns:List Nd) (p j:Nat):Prop:=lowS ns p<(j:Int)∧j≤p∧stB (nd ns j).k=true
section
variable {ns:List Nd} {root:Int} (rt:RightT ns root)
include rt
theorem RightT.kidk {j:Nat} (hj:j<ns.length) {q:Int} (hq:q∈(nd ns j).kids) :
  let k:=(nd ns j).k
  let x:=(nd ns q.toNat).k
  (k=1∧(x=2∨x=3))∨(k=3∧(x=4∨x=5∨x=6))∨(k=6∧stB x=true)∨(7≤k∧k≤27∧exB x=true)∨((k=9∨k=10)∧x=18)∨((k=11∨k=12∨k=16)∧x=6)∨(k=13∧x=19) :=
 kid_kind (rt.shape j hj) (kinds_mem hq)
theorem RightT.noSt:∀ (j:Nat),j<ns.length→(nd ns j).k=2∨(nd ns j).k=4∨(nd ns j).k=5∨18≤(nd ns j).k→∀ x:Nat,lowS ns j<x→x≤j→stB (nd ns x).k=false:=by
 intro j
 induction j using Nat.strongRecOn with
 | _ j ih =>
  intro hj hk x h1 h2
  by_cases e:x=j
  ·subst e
   cases hs:stB (nd ns x).k with
   | false=>rfl
   | true=>have:=stB_iff.1 hs;omega
  ·obtain⟨q,hq,g0,g1,g2⟩:=rt.tile j hj (x:Int) h1 (by omega)
   obtain⟨q0,q1,_⟩:=rt.kid j hj q hq
   have:=rt.kidk hj hq
   simp only at this
   refine ih q.toNat (by omega) (by omega) ?_ x g1 (by omega)
   have hx:=@exB_iff (nd ns q.toNat).k
   rcases this with h|h|h|h|h|h|h
   ·omega
   ·omega
   ·omega
   ·have:=hx.1 h.2.2;omega
   ·omega
   ·omega
   ·omega
theorem RightT.inn {p j:Nat} (hp:p<ns.length):Inn ns p j↔(j=p∧stB (nd ns p).k=true)∨∃ q∈(nd ns p).kids,Inn ns q.toNat j:=by
 constructor
 ·rintro⟨h1,h2,h3⟩
  by_cases e:j=p
  ·subst e;exact .inl ⟨rfl,h3⟩
  ·obtain⟨q,hq,g0,g1,g2⟩:=rt.tile p hp (j:Int) h1 (by omega)
   exact .inr ⟨q,hq,g1,by omega,h3⟩
 ·rintro (⟨rfl,h⟩|⟨q,hq,h1,h2,h3⟩)
  ·exact⟨(rt.self j hp).2,Nat.le_refl _,h⟩
  ·obtain⟨q0,q1,q2⟩:=rt.kid p hp q hq
   exact⟨by omega,by omega,h3⟩
theorem RightT.noInn {p:Nat} (hp:p<ns.length) (hk:(nd ns p).k=2∨(nd ns p).k=4∨(nd ns p).k=5∨18≤(nd ns p).k) {j:Nat}:¬ Inn ns p j:=fun ⟨h1,h2,h3⟩=>by
 rw [rt.noSt p hp hk j h1 h2] at h3;cases h3
theorem RightT.innApart {p:Nat} (hp:p<ns.length) {q q':Int} (hq:q∈(nd ns p).kids) (hq':q'∈(nd ns p).kids) {j:Nat} (h:Inn ns q.toNat j) (h':Inn ns q'.toNat j):q=q':=by
 obtain⟨a1,a2,_⟩:=h
 obtain⟨b1,b2,_⟩:=h'
 obtain⟨q0,_,_⟩:=rt.kid p hp q hq
 obtain⟨q0',_,_⟩:=rt.kid p hp q' hq'
 rcases Int.lt_trichotomy q q' with h|h|h
 ·have:=rt.apart p hp q hq q' hq' h;omega
 ·exact h
 ·have:=rt.apart p hp q' hq' q hq h;omega
theorem RightT.innKid {p:Nat} (hp:p<ns.length) {q:Int} (hq:q∈(nd ns p).kids):¬ Inn ns q.toNat p:=fun ⟨_,h2,_⟩=>by
 obtain⟨q0,q1,_⟩:=rt.kid p hp q hq
 omega
theorem RightT.kids11 {p:Nat} (hp:p<ns.length) (hk:(nd ns p).k=11):∃ a b c,(nd ns p).kids=[a,b,c]∧exB (nd ns a.toNat).k=true∧(nd ns b.toNat).k=6∧(nd ns c.toNat).k=6:=by
 have h:=rt.shape p hp
 simp only [ShapeOf,hk] at h
 simp at h
 obtain⟨a,h,ha⟩:=h
 unfold kindsS at h
 match hl:(nd ns p).kids,h with
 | [x,y,z],h=>simp at h;exact⟨x,y,z,rfl,by rw [show (nd ns x.toNat).k=a from h.1];exact ha,h.2.1,h.2.2⟩
 | [],h=>simp at h
 | [_],h=>simp at h
 | [_,_],h=>simp at h
 | _::_::_::_::_,h=>simp at h
theorem RightT.kids12 {p:Nat} (hp:p<ns.length) (hk:(nd ns p).k=12):∃ a b,(nd ns p).kids=[a,b]∧exB (nd ns a.toNat).k=true∧(nd ns b.toNat).k=6:=by
 have h:=rt.shape p hp
 simp only [ShapeOf,hk] at h
 simp at h
 obtain⟨a,h,ha⟩:=h
 unfold kindsS at h
 match hl:(nd ns p).kids,h with
 | [x,y],h=>simp at h;exact⟨x,y,rfl,by rw [show (nd ns x.toNat).k=a from h.1];exact ha,h.2⟩
 | [],h=>simp at h
 | [_],h=>simp at h
 | _::_::_::_,h=>simp at h
theorem RightT.kids16 {p:Nat} (hp:p<ns.length) (hk:(nd ns p).k=16):∃ a b,(nd ns p).kids=[a,b]∧(nd ns a.toNat).k=6∧(nd ns b.toNat).k=6:=by
 have h:=rt.shape p hp
 simp only [ShapeOf,hk] at h
 simp at h
 unfold kindsS at h
 match hl:(nd ns p).kids,h with
 | [x,y],h=>simp at h;exact⟨x,y,rfl,h.1,h.2⟩
 | [],h=>simp at h
 | [_],h=>simp at h
 | _::_::_::_,h=>simp at h
theorem RightT.body {p:Nat} (hp:p<ns.length) (hk:(nd ns p).k=3):∃ l b,(nd ns p).kids=l++[b]∧(nd ns b.toNat).k=6∧∀ q∈l,(nd ns q.toNat).k=4∨(nd ns q.toNat).k=5:=by
 have h:=rt.shape p hp
 simp only [ShapeOf,hk] at h
 simp at h
 obtain⟨a,b,h,ha,hb⟩:=h
 have hne:(nd ns p).kids≠[]:=fun e=>by simp [kindsS,e] at h
 obtain⟨l,x,e⟩:∃ l x,(nd ns p).kids=l++[x]:=⟨_,_,(List.dropLast_concat_getLast hne).symm⟩
 have h:(l.map fun q=>(nd ns q.toNat).k)++[(nd ns x.toNat).k]=(a++b)++[6]:=by
  have:kindsS ns (nd ns p)=(l.map fun q=>(nd ns q.toNat).k)++[(nd ns x.toNat).k]:=by simp only [kindsS,e,List.map_append,List.map_cons,List.map_nil];rfl
  rw [← this,h,List.append_assoc]
 obtain⟨h1,h2⟩:=List.append_inj' h rfl
 refine⟨l,x,e,by simpa using h2,fun q hq=>?_⟩
 have:(nd ns q.toNat).k∈a++b:=by rw [← h1];exact List.mem_map.2 ⟨q,hq,rfl⟩
 rcases List.mem_append.1 this with h|h
 ·exact .inl (ha _ h)
 ·exact .inr (hb _ h)
end
def succG (g:GN) (y:Int):Prop:=y∈g.nx∨(g.ra≠-1∧y=g.ra)
structure LaidN (ns:List Nd) (T:Int→Prop) (i:Nat) (g g':GN):Prop where
 k:g'.k=g.k
 pl:g'.pl=g.pl
 pr:g'.pr=g.pr
 nx:∀ x∈g'.nx,T x
 ra:g'.ra=-1∨T g'.ra
 ra16:(nd ns i).k=16→g'.ra=-1
 rise:(nd ns i).k≠16→raisesF ns i=true→T g'.ra
 calm:raisesF ns i=false→g'.ra=-1
 two:g'.nx.length=2↔(nd ns i).k=11∨(nd ns i).k=12
 nil:g'.nx.length=0↔(nd ns i).k=15
 lt3:g'.nx.length<3
structure Laid (ns:List Nd) (at':Nat→Nat) (S:Nat→Prop) (fo h ex:Int) (G:Nat→GN) (r:Int×(Nat→GN)):Prop where
 frame:∀ x,(∀ j,S j→at' j≠x)→r.2 x=G x
 laid:∀ T:Int→Prop,T fo→T h→T ex→(∀ j,S j→T (at' j:Nat))→T r.1∧∀ j,S j→LaidN ns T j (G (at' j)) (r.2 (at' j))
 way:∀ (H:Nat→GN) (D:Int→Prop),D fo→D h→D ex→(∀ j,S j→H (at' j)=r.2 (at' j))→(∀ j,S j→(∃ y,succG (H (at' j)) y∧D y)→D (at' j:Nat))→D r.1∧∀ j,S j→D (at' j:Nat)
theorem Laid.nil {ns:List Nd} {at':Nat→Nat} {S:Nat→Prop} {fo h ex:Int} {G:Nat→GN} (hS:∀ j,¬ S j):Laid ns at' S fo h ex G (fo,G) :=
 ⟨fun _ _=>rfl,fun T h1 _ _ _=>⟨h1,fun j hj=>(hS j hj).elim⟩,fun H D h1 _ _ _ _=>⟨h1,fun j hj=>(hS j hj).elim⟩⟩
theorem Laid.iff {ns:List Nd} {at':Nat→Nat} {S S':Nat→Prop} {fo h ex:Int} {G:Nat→GN} {r:Int×(Nat→GN)} (hl:Laid ns at' S fo h ex G r) (e:∀ j,S j↔S' j):Laid ns at' S' fo h ex G r:=by
 have:S=S':=funext fun j=>propext (e j)
 exact this▸hl
theorem Laid.seq {ns:List Nd} {at':Nat→Nat} {S S':Nat→Prop} {fo h ex:Int} {G:Nat→GN} {r r':Int×(Nat→GN)} (hl:Laid ns at' S fo h ex G r) (hl':Laid ns at' S' r.1 h ex r.2 r')
  (hd:∀ j j',S j→S' j'→at' j≠at' j'):Laid ns at' (fun j=>S j∨S' j) fo h ex G r':=by
 refine⟨fun x hx=>?_,fun T h1 h2 h3 h4=>?_,fun H D h1 h2 h3 h4 h5=>?_⟩
 ·rw [hl'.frame x fun j hj=>hx j (.inr hj),hl.frame x fun j hj=>hx j (.inl hj)]
 ·obtain⟨a1,a2⟩:=hl.laid T h1 h2 h3 fun j hj=>h4 j (.inl hj)
  obtain⟨b1,b2⟩:=hl'.laid T a1 h2 h3 fun j hj=>h4 j (.inr hj)
  refine⟨b1,fun j hj=>?_⟩
  rcases hj with hj|hj
  ·rw [hl'.frame (at' j) fun j' hj' e=>hd j j' hj hj' e.symm]
   exact a2 j hj
  ·rw [← hl.frame (at' j) fun j' hj' e=>hd j' j hj' hj e]
   exact b2 j hj
 ·obtain⟨a1,a2⟩:=hl.way H D h1 h2 h3 (fun j hj=>by rw [h4 j (.inl hj),hl'.frame (at' j) fun j' hj' e=>hd j j' hj hj' e.symm]) fun j hj=>h5 j (.inl hj)
  obtain⟨b1,b2⟩:=hl'.way H D a1 h2 h3 (fun j hj=>h4 j (.inr hj)) fun j hj=>h5 j (.inr hj)
  exact⟨b1,fun j hj=>hj.elim (a2 j) (b2 j)⟩
theorem Laid.node {ns:List Nd} {at':Nat→Nat} {p:Nat} {S1 S2:Nat→Prop} {fo h ex fo1 h1 fo2 h2:Int} {G:Nat→GN} {r1 r2:Int×(Nat→GN)} {nx:List Int} {ra b:Int}
  (L1:Laid ns at' S1 fo1 h1 ex G r1) (L2:Laid ns at' S2 fo2 h2 ex r1.2 r2)
  (d12:∀ j j',S1 j→S2 j'→at' j≠at' j') (d1:∀ j,S1 j→at' j≠at' p) (d2:∀ j,S2 j→at' j≠at' p)
  (hT:∀ T:Int→Prop,T fo→T h→T ex→T (at' p:Nat)→(T fo1∧T h1∧T fo2∧T h2)∧(T r1.1→T r2.1→T b∧∀ x∈nx,T x))
  (hra:(ra=-1∨ra=h)∧((nd ns p).k=16→ra=-1)∧((nd ns p).k≠16→raisesF ns p=true→ra=h)∧(raisesF ns p=false→ra=-1))
  (hn:(nx.length=2↔(nd ns p).k=11∨(nd ns p).k=12)∧(nx.length=0↔(nd ns p).k=15)∧nx.length<3)
  (hD:∀ D:Int→Prop,D fo→D h→D ex→(D fo1→D h1→D r1.1)→(D fo2→D h2→D r2.1)→((∃ y,(y∈nx∨(ra≠-1∧y=ra))∧D y)→D (at' p:Nat))→D (at' p:Nat)∧D b∧D fo1∧D h1∧D fo2∧D h2) :
  Laid ns at' (fun j=>j=p∨S1 j∨S2 j) fo h ex G (b,setG r2.2 (at' p) nx ra):=by
 have hset:∀ x,x≠at' p→setG r2.2 (at' p) nx ra x=r2.2 x:=fun x hx=>by simp only [setG,if_neg hx]
 have hGp:r2.2 (at' p)=G (at' p):=by
  rw [L2.frame (at' p) fun j hj=>d2 j hj,L1.frame (at' p) fun j hj=>d1 j hj]
 refine⟨fun x hx=>?_,fun T t1 t2 t3 t4=>?_,fun H D t1 t2 t3 t4 t5=>?_⟩
 ·simp only
  rw [hset x fun e=>hx p (.inl rfl) e.symm,L2.frame x fun j hj=>hx j (.inr (.inr hj)),L1.frame x fun j hj=>hx j (.inr (.inl hj))]
 ·obtain⟨⟨c1,c2,c3,c4⟩,c5⟩:=hT T t1 t2 t3 (t4 p (.inl rfl))
  obtain⟨a1,a2⟩:=L1.laid T c1 c2 t3 fun j hj=>t4 j (.inr (.inl hj))
  obtain⟨b1,b2⟩:=L2.laid T c3 c4 t3 fun j hj=>t4 j (.inr (.inr hj))
  obtain⟨c6,c7⟩:=c5 a1 b1
  refine⟨c6,fun j hj=>?_⟩
  rcases hj with rfl|hj|hj
  ·have e:setG r2.2 (at' j) nx ra (at' j)=⟨(G (at' j)).k,(G (at' j)).pl,(G (at' j)).pr,nx,ra⟩:=by simp only [setG,if_pos,hGp]
   simp only
   rw [e]
   refine⟨rfl,rfl,rfl,c7,?_,hra.2.1,fun g1 g2=>?_,hra.2.2.2,hn.1,hn.2.1,hn.2.2⟩
   ·rcases hra.1 with e|e
    ·exact .inl e
    ·exact .inr (by simp only;rw [e];exact t2)
   ·simp only
    rw [hra.2.2.1 g1 g2];exact t2
  ·simp only
   rw [hset _ (d1 j hj),L2.frame (at' j) fun j' hj' e=>d12 j j' hj hj' e.symm]
   exact a2 j hj
  ·simp only
   rw [hset _ (d2 j hj),← L1.frame (at' j) fun j' hj' e=>d12 j' j hj' hj e]
   exact b2 j hj
 ·simp only at t4
  have e1:∀ j,S1 j→H (at' j)=r1.2 (at' j):=fun j hj=>by
   rw [t4 j (.inr (.inl hj)),hset _ (d1 j hj),L2.frame (at' j) fun j' hj' e=>d12 j j' hj hj' e.symm]
  have e2:∀ j,S2 j→H (at' j)=r2.2 (at' j):=fun j hj=>by
   rw [t4 j (.inr (.inr hj)),hset _ (d2 j hj)]
  have w1:=L1.way H D
  have w2:=L2.way H D
  have hp:(∃ y,(y∈nx∨(ra≠-1∧y=ra))∧D y)→D (at' p:Nat):=fun ⟨y,hy,hd⟩=>t5 p (.inl rfl) ⟨y,by
   rw [t4 p (.inl rfl)]
   simpa only [succG,setG,if_pos] using hy,hd⟩
  obtain⟨g1,g2,g3,g4,g5,g6⟩:=hD D t1 t2 t3 (fun a b=>(w1 a b t3 e1 fun j hj=>t5 j (.inr (.inl hj))).1) (fun a b=>(w2 a b t3 e2 fun j hj=>t5 j (.inr (.inr hj))).1) hp
  have v1:=w1 g3 g4 t3 e1 fun j hj=>t5 j (.inr (.inl hj))
  have v2:=w2 g5 g6 t3 e2 fun j hj=>t5 j (.inr (.inr hj))
  refine⟨g2,fun j hj=>?_⟩
  rcases hj with rfl|hj|hj
  ·exact g1
  ·exact v1.2 j hj
  ·exact v2.2 j hj
theorem kidsS_pair {out:List Nat} (ho:szOk out):∀ (l:List Int) (last:Int) (size:Nat) (c:Nat),last<out.length→kidsS out l last size=some c→l.Pairwise (fun a c=>c<a):=by
 intro l
 induction l with
 | nil=>intro _ _ _ _ _;exact List.Pairwise.nil
 | cons k r ih =>
  intro last size c h1 h
  simp only [kidsS] at h
  split at h
  case h_2=>simp at h
  rename_i hb
  simp only [Bool.and_eq_true,beq_iff_eq,decide_eq_true_eq] at hb
  obtain⟨rfl,hk⟩:=hb
  have:=ho k.toNat (by omega)
  refine List.pairwise_cons.2 ⟨fun x hx=>?_,ih _ _ c (by omega) h⟩
  have:=kidsS_mem ho r _ _ c (by omega) h x hx
  omega
theorem rev_pair {ns:List Nd} {root:Int} (h:soundS ns root=true) {j:Nat} (hj:j<ns.length):(nd ns j).kids.reverse.Pairwise (fun a c=>c<a):=by
 simp only [soundS,Bool.and_eq_true] at h
 obtain⟨_,h4⟩:=h
 split at h4
 case h_2=>simp at h4
 rename_i l hl
 obtain⟨hlen,hok,_⟩:=sizesS_inv ns [] l (fun i hi=>by simp at hi) hl
 obtain⟨_,he⟩:=sizesS_each ns [] l hl
 simp only [List.length_nil,Nat.zero_add] at hlen he
 have hlt:(l.take j).length=j:=by rw [List.length_take];omega
 refine kidsS_pair (out:=l.take j) (fun i hi=>?_) _ _ _ _ (by rw [hlt];omega) (he j hj)
 rw [hlt] at hi
 have:=hok i (by omega)
 rw [List.getD_eq_getElem?_getD,List.getElem?_take,if_pos hi,← List.getD_eq_getElem?_getD]
 exact this
section
variable {ns:List Nd} {root:Int} (rt:RightT ns root) {of:Int→Option Nat} {ex:Int}
include rt
theorem row_laid {m:Nat} (hst:∀ (p:Nat) (fo h:Int) (G:Nat→GN),0≤h→p<m→p<ns.length→stB (nd ns p).k=true→(∀ j j',Inn ns p j→Inn ns p j'→atO of j=atO of j'→j=j')→Laid ns (atO of) (Inn ns p) fo h ex G (flStmt ns of ex m p fo h G))
  {b:Nat} (hb:b<ns.length) (hbm:b≤m) (hk:(nd ns b).k=6) (hof:∀ j j',Inn ns b j→Inn ns b j'→atO of j=atO of j'→j=j') (h:Int) (h0:0≤h) :
  ∀ (l:List Int),(∀ q∈l,q∈(nd ns b).kids)→l.Pairwise (fun a c=>c<a)→∀ (fo:Int) (G:Nat→GN),Laid ns (atO of) (fun j=>∃ q∈l,Inn ns q.toNat j) fo h ex G (flRow (flStmt ns of ex m) h l fo G):=by
 intro l
 induction l with
 | nil=>intro _ _ fo G;exact Laid.nil fun j hj=>by obtain⟨q,hq,_⟩:=hj;simp at hq
 | cons q l ih =>
  intro hl hp fo G
  have hq:=hl q (by simp)
  obtain⟨q0,q1,_⟩:=rt.kid b hb q hq
  have hin:∀ j,Inn ns q.toNat j→Inn ns b j:=fun j hj=>(rt.inn hb).2 (.inr ⟨q,hq,hj⟩)
  have hkq:stB (nd ns q.toNat).k=true:=by
   have:=rt.kidk hb hq
   simp only at this
   rcases this with h|h|h|h|h|h|h<;>first|exact h.2|omega
  have h1:=hst q.toNat fo h G h0 (by omega) (by omega) hkq fun j j' hj hj'=>hof j j' (hin j hj) (hin j' hj')
  obtain⟨hp1,hp2⟩:=List.pairwise_cons.1 hp
  have h2:=ih (fun x hx=>hl x (by simp [hx])) hp2 (flStmt ns of ex m q.toNat fo h G).1 (flStmt ns of ex m q.toNat fo h G).2
  refine Laid.iff (h1.seq h2 fun j j' hj ⟨q',hq',hj'⟩ e=>?_) fun j=>?_
  ·have:=hof j j' (hin j hj) ((rt.inn hb).2 (.inr ⟨q',hl q' (by simp [hq']),hj'⟩)) e
   subst this
   have:=rt.innApart hb hq (hl q' (by simp [hq'])) hj hj'
   have:=hp1 q' hq'
   omega
  ·simp
theorem block_laid {m:Nat} (hst:∀ (p:Nat) (fo h:Int) (G:Nat→GN),0≤h→p<m→p<ns.length→stB (nd ns p).k=true→(∀ j j',Inn ns p j→Inn ns p j'→atO of j=atO of j'→j=j')→Laid ns (atO of) (Inn ns p) fo h ex G (flStmt ns of ex m p fo h G))
  {b:Nat} (hb:b<ns.length) (hbm:b≤m) (hk:(nd ns b).k=6) (hof:∀ j j',Inn ns b j→Inn ns b j'→atO of j=atO of j'→j=j') (h:Int) (h0:0≤h) (fo:Int) (G:Nat→GN) :
  Laid ns (atO of) (Inn ns b) fo h ex G (flBlock ns of ex m b fo h G):=by
 refine Laid.iff (row_laid rt hst hb hbm hk hof h h0 (nd ns b).kids.reverse (fun q hq=>by simpa using hq) (rev_pair (by have:=rt.ok;simp only [rightS,Bool.and_eq_true] at this;exact this.1.1.1) hb) fo G) fun j=>?_
 rw [rt.inn hb]
 constructor
 ·rintro⟨q,hq,hj⟩
  exact .inr ⟨q,by simpa using hq,hj⟩
 ·rintro (⟨rfl,h⟩|⟨q,hq,hj⟩)
  ·have:=stB_iff.1 h;omega
  ·exact⟨q,by simpa using hq,hj⟩
theorem stmt_laid:∀ (m p:Nat) (fo h:Int) (G:Nat→GN),0≤h→p<m→p<ns.length→stB (nd ns p).k=true→(∀ j j',Inn ns p j→Inn ns p j'→atO of j=atO of j'→j=j')→Laid ns (atO of) (Inn ns p) fo h ex G (flStmt ns of ex m p fo h G):=by
 intro m
 induction m with
 | zero=>intro p fo h G _ hp;omega
 | succ m ih =>
 intro p fo h G h0 hpm hp hst hof
 have hself:Inn ns p p:=(rt.inn hp).2 (.inl ⟨rfl,hst⟩)
 have hup:∀ q∈(nd ns p).kids,∀ j,Inn ns q.toNat j→Inn ns p j:=fun q hq j hj=>(rt.inn hp).2 (.inr ⟨q,hq,hj⟩)
 have hdp:∀ q∈(nd ns p).kids,∀ j,Inn ns q.toNat j→atO of j≠atO of p:=fun q hq j hj e=>by
  have:=hof j p (hup q hq j hj) hself e
  subst this
  exact rt.innKid hp hq hj
 have hblk:∀ q∈(nd ns p).kids,(nd ns q.toNat).k=6→∀ (fo h:Int) (G:Nat→GN),0≤h→Laid ns (atO of) (Inn ns q.toNat) fo h ex G (flRow (flStmt ns of ex m) h (nd ns q.toNat).kids.reverse fo G):=fun q hq hk fo h G h0=>by
  obtain⟨q0,q1,_⟩:=rt.kid p hp q hq
  exact block_laid rt ih (by omega) (by omega) hk (fun j j' hj hj'=>hof j j' (hup q hq j hj) (hup q hq j' hj')) h h0 fo G
 have hra:∀ {ra:Int},ra=(if raisesF ns p then h else -1)→(nd ns p).k≠16→(ra=-1∨ra=h)∧((nd ns p).k=16→ra=-1)∧((nd ns p).k≠16→raisesF ns p=true→ra=h)∧(raisesF ns p=false→ra=-1):=fun {ra} e hk=>by
  subst e
  cases hr:raisesF ns p<;>simp [hk]
 have hone:∀ {nx:List Int} {ra:Int},ra=(if raisesF ns p then h else -1)→(nd ns p).k≠11→(nd ns p).k≠12→(nd ns p).k≠16→(∀ x∈nx,x=fo∨x=ex)→((nx.length=0↔(nd ns p).k=15)∧nx.length<2)→((nx=[]→ra=h)) →
   Laid ns (atO of) (Inn ns p) fo h ex G ((atO of p:Nat),setG G (atO of p) nx ra):=fun {nx ra} e k11 k12 k16 hnx hn hr=>by
  have N:=Laid.node (p:=p) (h:=h) (fo:=fo) (b:=(atO of p:Nat)) (nx:=nx) (ra:=ra) (Laid.nil (ns:=ns) (at':=atO of) (S:=fun _=>False) (fo:=fo) (h:=h) (ex:=ex) (G:=G) fun _ h=>h)
   (Laid.nil (ns:=ns) (at':=atO of) (S:=fun _=>False) (fo:=fo) (h:=h) (ex:=ex) (G:=G) fun _ h=>h) (fun _ _ h=>h.elim) (fun _ h=>h.elim) (fun _ h=>h.elim)
   (fun T t1 t2 t3 t4=>⟨⟨t1,t2,t1,t2⟩,fun _ _=>⟨t4,fun x hx=>by rcases hnx x hx with rfl|rfl<;>assumption⟩⟩) (hra e k16) ⟨by simp [k11,k12];omega,hn.1,by omega⟩
   (fun D t1 t2 t3 _ _ t6=>by
    have:D (atO of p:Nat):=by
     cases nx with
     | nil=>exact t6 ⟨h,.inr ⟨by rw [hr rfl];omega,(hr rfl).symm⟩,t2⟩
     | cons x l=>exact t6 ⟨x,.inl (by simp),by rcases hnx x (by simp) with rfl|rfl<;>assumption⟩
    exact⟨this,this,t1,t2,t1,t2⟩)
  refine Laid.iff N fun j=>?_
  rw [rt.inn hp]
  constructor
  ·rintro (rfl|h|h)
   ·exact .inl ⟨rfl,hst⟩
   ·exact h.elim
   ·exact h.elim
  ·rintro (⟨rfl,_⟩|⟨q,hq,hj⟩)
   ·exact .inl rfl
   ·have hs:=stB_iff.1 hst
    obtain⟨q0,q1,_⟩:=rt.kid p hp q hq
    have hkd:=rt.kidk hp hq
    simp only at hkd
    refine (rt.noInn (p:=q.toNat) (by omega) ?_ hj).elim
    have hx:=@exB_iff (nd ns q.toNat).k
    rcases hkd with h|h|h|h|h|h|h
    ·omega
    ·omega
    ·omega
    ·have:=hx.1 h.2.2;omega
    ·omega
    ·omega
    ·omega
 simp only [flStmt]
 by_cases k11:(nd ns p).k=11
 ·rw [if_pos k11]
  obtain⟨a,b,c,hks,hka,hkb,hkc⟩:=rt.kids11 hp k11
  rw [hks]
  simp only [List.getD_cons_succ,List.getD_cons_zero]
  have L1:=hblk b (by rw [hks];simp) hkb fo h G h0
  have L2:=hblk c (by rw [hks];simp) hkc fo h (flRow (flStmt ns of ex m) h (nd ns b.toNat).kids.reverse fo G).2 h0
  have hbc:b≠c:=fun e=>by
   have:=rev_pair (by have:=rt.ok;simp only [rightS,Bool.and_eq_true] at this;exact this.1.1.1) hp
   rw [hks] at this
   simp at this
   omega
  have N:=Laid.node (p:=p) (fo:=fo) (h:=h) (b:=(atO of p:Nat)) (nx:=[(flRow (flStmt ns of ex m) h (nd ns b.toNat).kids.reverse fo G).1,(flRow (flStmt ns of ex m) h (nd ns c.toNat).kids.reverse fo (flRow (flStmt ns of ex m) h (nd ns b.toNat).kids.reverse fo G).2).1]) (ra:=if raisesF ns p then h else -1) L1 L2
   (fun j j' hj hj' e=>by
    have:=hof j j' (hup b (by rw [hks];simp) j hj) (hup c (by rw [hks];simp) j' hj') e
    subst this
    exact hbc (rt.innApart hp (by rw [hks];simp) (by rw [hks];simp) hj hj'))
   (hdp b (by rw [hks];simp)) (hdp c (by rw [hks];simp))
   (fun T t1 t2 t3 t4=>⟨⟨t1,t2,t1,t2⟩,fun a b=>⟨t4,fun x hx=>by
    simp only [List.mem_cons,List.not_mem_nil,or_false] at hx
    rcases hx with rfl|rfl<;>assumption⟩⟩)
   (hra rfl (by omega)) ⟨by simp [k11],by simp [k11],by simp⟩
   (fun D t1 t2 t3 t4 t5 t6=>by
    have:D (atO of p:Nat):=t6 ⟨_,.inl (List.mem_cons_self ..),t4 t1 t2⟩
    exact⟨this,this,t1,t2,t1,t2⟩)
  refine Laid.iff N fun j=>?_
  rw [rt.inn hp,hks]
  have hno:¬ Inn ns a.toNat j:=by
   obtain⟨q0,q1,_⟩:=rt.kid p hp a (by rw [hks];simp)
   exact rt.noInn (by omega) (by have:=exB_iff.1 hka;omega)
  simp [hno,hst]
 rw [if_neg k11]
 by_cases k12:(nd ns p).k=12
 ·rw [if_pos k12]
  obtain⟨a,b,hks,hka,hkb⟩:=rt.kids12 hp k12
  rw [hks]
  simp only [List.getD_cons_succ,List.getD_cons_zero]
  have L1:=hblk b (by rw [hks];simp) hkb (atO of p:Nat) h G h0
  have N:=Laid.node (p:=p) (fo:=fo) (h:=h) (b:=(atO of p:Nat)) (nx:=[(flRow (flStmt ns of ex m) h (nd ns b.toNat).kids.reverse (atO of p:Nat) G).1,fo]) (ra:=if raisesF ns p then h else -1) L1
   (Laid.nil (ns:=ns) (at':=atO of) (S:=fun _=>False) (fo:=fo) (h:=h) (ex:=ex) fun _ h=>h)
   (fun j j' hj hj'=>hj'.elim) (hdp b (by rw [hks];simp)) (fun _ h=>h.elim)
   (fun T t1 t2 t3 t4=>⟨⟨t4,t2,t1,t2⟩,fun a b=>⟨t4,fun x hx=>by
    simp only [List.mem_cons,List.not_mem_nil,or_false] at hx
    rcases hx with rfl|rfl<;>assumption⟩⟩)
   (hra rfl (by omega)) ⟨by simp [k12],by simp [k12],by simp⟩
   (fun D t1 t2 t3 t4 t5 t6=>by
    have:D (atO of p:Nat):=t6 ⟨fo,.inl (by simp),t1⟩
    exact⟨this,this,this,t2,t1,t2⟩)
  refine Laid.iff N fun j=>?_
  rw [rt.inn hp,hks]
  have hno:¬ Inn ns a.toNat j:=by
   obtain⟨q0,q1,_⟩:=rt.kid p hp a (by rw [hks];simp)
   exact rt.noInn (by omega) (by have:=exB_iff.1 hka;omega)
  simp [hno,hst]
 rw [if_neg k12]
 by_cases k16:(nd ns p).k=16
 ·rw [if_pos k16]
  obtain⟨b,c,hks,hkb,hkc⟩:=rt.kids16 hp k16
  rw [hks]
  simp only [List.getD_cons_succ,List.getD_cons_zero]
  have L1:=hblk b (by rw [hks];simp) hkb fo (atO of p:Nat) G (by omega)
  have L2:=hblk c (by rw [hks];simp) hkc fo h (flRow (flStmt ns of ex m) (atO of p:Nat) (nd ns b.toNat).kids.reverse fo G).2 h0
  have hbc:b≠c:=fun e=>by
   have:=rev_pair (by have:=rt.ok;simp only [rightS,Bool.and_eq_true] at this;exact this.1.1.1) hp
   rw [hks] at this
   simp at this
   omega
  have N:=Laid.node (p:=p) (fo:=fo) (h:=h) (b:=(flRow (flStmt ns of ex m) (atO of p:Nat) (nd ns b.toNat).kids.reverse fo G).1) (nx:=[(flRow (flStmt ns of ex m) h (nd ns c.toNat).kids.reverse fo (flRow (flStmt ns of ex m) (atO of p:Nat) (nd ns b.toNat).kids.reverse fo G).2).1]) (ra:=-1) L1 L2
   (fun j j' hj hj' e=>by
    have:=hof j j' (hup b (by rw [hks];simp) j hj) (hup c (by rw [hks];simp) j' hj') e
    subst this
    exact hbc (rt.innApart hp (by rw [hks];simp) (by rw [hks];simp) hj hj'))
   (hdp b (by rw [hks];simp)) (hdp c (by rw [hks];simp))
   (fun T t1 t2 t3 t4=>⟨⟨t1,t4,t1,t2⟩,fun a b=>⟨a,fun x hx=>by
    simp only [List.mem_cons,List.not_mem_nil,or_false] at hx
    rcases hx with rfl;exact b⟩⟩)
   ⟨.inl rfl,fun _=>rfl,fun h=>absurd k16 h,fun _=>rfl⟩ ⟨by simp [k16],by simp [k16],by simp⟩
   (fun D t1 t2 t3 t4 t5 t6=>by
    have:D (atO of p:Nat):=t6 ⟨_,.inl (List.mem_cons_self ..),t5 t1 t2⟩
    exact⟨this,t4 t1 this,t1,this,t1,t2⟩)
  refine Laid.iff N fun j=>?_
  rw [rt.inn hp,hks]
  simp [hst]
 rw [if_neg k16]
 by_cases k14:(nd ns p).k=14
 ·rw [if_pos k14]
  exact hone rfl k11 k12 k16 (fun x hx=>by simp at hx;exact .inr hx) ⟨by simp [k14],by simp⟩ (fun h=>by simp at h)
 rw [if_neg k14]
 by_cases k15:(nd ns p).k=15
 ·rw [if_pos k15]
  refine hone rfl k11 k12 k16 (fun x hx=>by simp at hx) ⟨by simp [k15],by simp⟩ fun _=>?_
  simp [raisesF,raisesN,riseB,k15]
 rw [if_neg k15]
 exact hone rfl k11 k12 k16 (fun x hx=>by simp at hx;exact .inl hx) ⟨by simp [k15],by simp⟩ (fun h=>by simp at h)
end
end Go.Ru
namespace Go.AE
theorem fsxK.refl (r sz n:Nat) (g:Nat→List PV) (Y:List ABlk):fsxK r sz n g Y Y:=by
 induction Y with
 | nil=>trivial
 | cons b Y ih=>exact⟨.inl (.inl (ABlk.le_refl _)),ih⟩
theorem Wk1.fz7 {N:Nat} {b0 b1 b2 b3 b4 b5 b5' b6:ABlk} {Y:List ABlk} {r ty sz n:Nat} {f:Nat→List AV} {a:AV} (g:Nat→List PV) (hr:nth Y r=some (.arr ty sz 0 n f)) (hg:∀ i,i<n→f i=pvs (g i))
  (h5:fsxB (r+7) sz n g b5 b5'):Wk1 N a (b0::b1::b2::b3::b4::b5::b6::Y) a (b0::b1::b2::b3::b4::b5'::b6::setN Y r .dead) :=
 Wk1.fzx (r:=r+7) g hr hg ⟨.inl (.inl (ABlk.le_refl _)),.inl (.inl (ABlk.le_refl _)),.inl (.inl (ABlk.le_refl _)),.inl (.inl (ABlk.le_refl _)),.inl (.inl (ABlk.le_refl _)),h5,.inl (.inl (ABlk.le_refl _)),fsxK.refl _ _ _ _ _⟩ (AV.le_refl _)
end Go.AE
namespace Go.Proofs.YtcmepkfefoidcaaGreatDoor
open Go.AE Go.Ru
set_option maxRecDepth 100000
set_option maxHeartbeats 1000000
theorem frameZ {G:AG} (hG:GOk Tryz.prog G) (n:Nat) {f:FuncId} {args:List AV} {K0 X:List ABlk} {k:AO→List ABlk→Prop} (hcl:AV.cls K0.length args=true) (hK:clK K0.length K0)
  (h:∀ Q:AO→List ABlk→Prop,(∀ v K' v' K1 K2,Wk1 K0.length v K' v' (K1++K2)→v'.cl K0.length=true→K1.length=K0.length→clK K0.length K1→k (.ret v') (K1++X)→Q (.ret v) K')→acall1 T0 G n f args K0 Q) :
  ACalls Tryz.prog f args (K0++X) k:=by
 refine (ACalls.frame (K0:=K0) (k:=fun ao K1=>k ao (K1++X)) hcl (fun r _=>clK.hp hK r)
  (ACalls.post (k:=fun ao K'=>∃ v v' K1 K2,ao=.ret v∧Wk1 K0.length v K' v' (K1++K2)∧v'.cl K0.length=true∧K1.length=K0.length∧clK K0.length K1∧k (.ret v') (K1++X)) (call_ok hG n f args _ _ (h _ ?_)) ?_)).mono ?_
 ·intro v K' v' K1 K2 h1 h2 h3 h4 h5
  exact⟨v,v',K1,K2,rfl,h1,h2,h3,h4,h5⟩
 ·rintro _ K' ⟨v,v',K1,K2,rfl,h1,h2,h3,h4,h5⟩
  have e:∀ (K1 L:List ABlk),takeN (K1++L) K1.length=K1:=fun K1 L=>by
   induction K1 with
   | nil=>exact takeN_zero _
   | cons a l ih=>simp only [List.cons_append,List.length_cons,takeN];rw [ih]
  have e:=e K1 K2
  rw [h3] at e
  refine⟨v',K1++K2,h1,h2,?_,fun r hr=>?_,?_⟩
  ·simp [h3]
  ·rw [hp_append,if_pos (by omega)];exact clK.hp h4 r
  ·show k (.ret v') (takeN _ K0.length++X)
   rw [e];exact h5
 ·rintro ao K ⟨K1,rfl,h⟩;exact h
def nxP:List Int→PV
 | []=>.nils
 | a::l=>.sl 1 (l.length+1) (kidF (a::l))
def gnF (G:Nat→GN) (i:Nat):List PV:=[.int .i64 (G i).k,.int .i64 (G i).pl,.int .i64 (G i).pr,nxP (G i).nx,.int .i64 (G i).ra]
def gnW (G:Nat→GN) (i:Nat):List PV:=[.int .i64 (G i).k,.int .i64 (G i).pl,.int .i64 (G i).pr,.sl 1 (G i).nx.length (kidF (G i).nx),.int .i64 (G i).ra]
def gnA (n:Nat) (G:Nat→GN):ABlk:=.arr 44 5 0 n (fun i=>pvs (gnF G i))
def ofG (of:Int→Option Nat) (κ:MK):Option AV:=match κ with
 | .i q o=>if q=.i64 then (match of o with
  | some j=>some (intV (j:Int))
  | none=>none) else none
 | .s _=>none
def grB (n np:Nat):ABlk:=.box 25 [.slr 5 0 0 n,.slr 6 0 0 np]
def layB (ns:List Nd) (root ex:Int):ABlk:=.box 80 [.p (.sl 5 ns.length (nodeF ns)),.p (.int .i64 root),.ptr 2 0 1 0 0,.mref 3,intV ex]
def stK (ns:List Nd) (root:Int) (n:Nat) (G:Nat→GN) (of:Int→Option Nat) (ex:Int) (np:Nat) (pf:Nat→Int):List ABlk :=
 [tbox ns root,.box 25 [.p .nils,.p .nils],grB n np,.mp (.int .i64) (ofG of) [],layB ns root ex,gnA n G,rowA np pf]
theorem ofG_cl {of:Int→Option Nat} {n:Nat}:∀ κ a,ofG of κ=some a→AV.cl n a=true:=fun κ a h=>by
 unfold ofG at h
 split at h
 ·split at h
  ·split at h
   ·injection h with h;subst h;rfl
   ·cases h
  ·cases h
 ·cases h
theorem stK_cl {ns:List Nd} {root:Int} {n:Nat} {G:Nat→GN} {of:Int→Option Nat} {ex:Int} {np:Nat} {pf:Nat→Int}:clK 7 (stK ns root n G of ex np pf) :=
 ⟨rfl,rfl,rfl,ofG_cl,rfl,fun _ _=>rfl,fun _ _=>rfl,trivial⟩
def OfOk (ns:List Nd) (of:Int→Option Nat) (n p:Nat):Prop:=∀ i:Nat,lowS ns p<(i:Int)→i≤p→stB (nd ns i).k=true→∃ j,of (i:Int)=some j∧j<n
theorem OfOk.kid {ns:List Nd} {root:Int} {of:Int→Option Nat} {n p:Nat} (h:OfOk ns of n p) (rt:RightT ns root) (hp:p<ns.length) {q:Int} (hq:q∈(nd ns p).kids):OfOk ns of n q.toNat:=fun i h1 h2 h3=>by
 obtain⟨q0,q1,q2⟩:=rt.kid p hp q hq
 exact h i (by omega) (by omega) h3
def lpV:AV:=.ptr 4 0 1 0 0
def cFst (m:Nat):AC:=fun args K k=>∃ ns root n G of ex np pf p fo h X,args=[lpV,intV ((p:Nat):Int),intV fo,intV h]∧K=stK ns root n G of ex np pf++X∧RightT ns root∧p<ns.length∧p<m∧stB (nd ns p).k=true∧OfOk ns of n p ∧
 k (.ret (intV (flStmt ns of ex m p fo h G).1)) (stK ns root n (flStmt ns of ex m p fo h G).2 of ex np pf++X)
def cFbl (m:Nat):AC:=fun args K k=>∃ ns root n G of ex np pf p fo h X,args=[lpV,intV ((p:Nat):Int),intV fo,intV h]∧K=stK ns root n G of ex np pf++X∧RightT ns root∧p<ns.length∧p≤m∧(nd ns p).k=6∧OfOk ns of n p ∧
 k (.ret (intV (flBlock ns of ex m p fo h G).1)) (stK ns root n (flBlock ns of ex m p fo h G).2 of ex np pf++X)
structure FbC where
 j:Nat
 fo:Int
 G:Nat→GN
def eFst (m:Nat):AC:=fun args K k=>∃ (ns:List Nd) (root:Int) (n:Nat) (G:Nat→GN) (of:Int→Option Nat) (ex:Int) (np:Nat) (pf:Nat→Int) (p:Nat) (fo h:Int) (X:List ABlk) (p':Int) (b:Int) (G':Nat→GN),
 args=[lpV,intV p',intV fo,intV h]∧K=stK ns root n G of ex np pf++X∧p'=(p:Int)∧RightT ns root∧p<ns.length∧p<m∧stB (nd ns p).k=true∧OfOk ns of n p∧flStmt ns of ex m p fo h G=(b,G') ∧
 k (.ret (intV b)) (stK ns root n G' of ex np pf++X)
theorem eFst_ok {m:Nat} (h0:COk 83 (cFst m)):COk 83 (eFst m):=by
 rintro args K k ⟨ns,root,n,G,of,ex,np,pf,p,fo,h,X,_,b,G',h1,h2,rfl,rt,h3,h4,h5,h6,h7,h8⟩
 exact h0 args K k ⟨ns,root,n,G,of,ex,np,pf,p,fo,h,X,h1,h2,rt,h3,h4,h5,h6,by rw [h7];exact h8⟩
theorem fbl_ok {m:Nat} (ihm:COk 83 (cFst m)):COk 49 (cFbl m):=by
 rintro args K k ⟨ns,root,n,G,of,ex,np,pf,p,fo,h,X,rfl,rfl,rt,hp,hpm,hk6,hof,hk⟩
 refine frameZ (K0:=stK ns root n G of ex np pf) (gput_ok (eFst_ok ihm) g0_ok) 19 rfl stK_cl fun Q hr=>?_
 have hmany:=rt.many p hp
 have hlen:=rt.len
 obtain⟨ks,hks⟩:∃ ks,(nd ns p).kids=ks:=⟨_,rfl⟩
 rw [hks] at hmany
 have hkid:∀ q∈ks,0≤q∧q<p∧stB (nd ns q.toNat).k=true∧OfOk ns of n q.toNat:=fun q hq=>by
  rw [← hks] at hq
  obtain⟨a,b,_⟩:=rt.kid p hp q hq
  refine⟨a,b,?_,hof.kid rt hp hq⟩
  have:=rt.kidk hp hq
  simp only at this
  rcases this with h|h|h|h|h|h|h<;>first|exact h.2|omega
 simp only [flBlock,hks] at hk
 have hksr:(ns.getD p default).kids=ks:=hks
 have hwk:IntKind.i64.wrap (((ns.getD p default).kids.length:Int) - 1)=(ks.length:Int) - 1:=by rw [hksr];exact w64 ⟨by omega,by omega⟩
 conv=>whnf
 refine⟨⟨by omega,by omega,rfl⟩,?_⟩
 conv=>whnf
 refine loop_up (ι:=FbC) [0,1] (fun c=>[(3,intV ((c.j:Int) - 1))]) (fun c=>[(5,gnA n c.G),(8,.box 3 [intV c.fo])])
  (fun c=>c.j≤ks.length∧flRow (flStmt ns of ex m) h (ks.take c.j).reverse c.fo c.G=flRow (flStmt ns of ex m) h ks.reverse fo G) (fun c=>c.j) ⟨ks.length,fo,G⟩
  ⟨AV.le_of_eq (congrArg intV hwk),trivial⟩ ⟨upLe1 rfl (ABlk.le_refl _),upLe1 rfl (ABlk.le_refl _),trivial⟩ ⟨Nat.le_refl _,by simp only [List.take_length]⟩ ?_
 rintro Z hlz ⟨j,fo',G'⟩ ⟨hj,he⟩ ihz
 simp only at hj he
 conv=>whnf
 refine two_dec (fun hjj=>?_) (fun hjj=>?_)
 ·have hjj:(j:Int) - 1≥0:=hjj
  obtain⟨j,rfl⟩:∃ i,j=i+1:=⟨j - 1,by omega⟩
  obtain⟨q,hq⟩:∃ q,ks.getD j 0=q:=⟨_,rfl⟩
  have hlt:j<ks.length:=by omega
  have htk:(ks.take (j+1)).reverse=q::(ks.take j).reverse:=by
   rw [List.take_add_one,List.reverse_append,← hq,List.getD_eq_getElem?_getD,List.getElem?_eq_getElem hlt]
   rfl
  rw [htk] at he
  obtain⟨b,G2,hst⟩:∃ b G2,flStmt ns of ex m q.toNat fo' h G'=(b,G2):=⟨_,_,rfl⟩
  simp only [flRow,hst] at he
  obtain⟨q0,q1,q2,q3⟩:=hkid q (by rw [← hq,List.getD_eq_getElem?_getD,List.getElem?_eq_getElem hlt];exact List.getElem_mem hlt)
  have hqe:(ns.getD p default).kids.getD (((j+1:Nat):Int) - 1).toNat 0=(q.toNat:Int):=by
   rw [hksr,show (((j+1:Nat):Int) - 1).toNat=j by omega,hq];omega
  have hjq:IntKind.i64.wrap ((((j+1:Nat):Int) - 1) - 1)=(j:Int) - 1:=by rw [w64 ⟨by omega,by omega⟩];omega
  have hkl:(((j+1:Nat):Int) - 1)<((ns.getD p default).kids.length:Int):=by rw [hksr];omega
  conv=>whnf
  refine⟨⟨by omega,hkl,rfl⟩,?_⟩
  conv=>whnf
  refine⟨ns,root,n,G',of,ex,np,pf,q.toNat,fo',h,_,_,b,G2,rfl,rfl,hqe,rt,by omega,by omega,q2,q3,hst,?_⟩
  conv=>whnf
  refine hlz _ _ (Le.cutEnv 12 rfl rfl ⟨rfl,rfl,rfl,ofG_cl,rfl,fun _ _=>rfl,fun _ _=>rfl,rfl,rfl,rfl,rfl,rfl,trivial⟩ ?_ ?_) (ihz ⟨j,b,G2⟩ (Nat.lt_succ_self _) ⟨by simp only;omega,he⟩)
  ·skip
   repeat' (first|exact trivial|((conv=>whnf);first|exact trivial|refine⟨AV.le_refl _,?_⟩|refine⟨ABlk.le_refl _,?_⟩|(refine⟨AV.le_of_eq ?_,?_⟩;focus ((first|exact congrArg intV hjq|fail);done))|(refine⟨ABlk.le_of_eq ?_,?_⟩;focus ((first|exact congrArg intV hjq|fail);done))|fail)|fail)
  ·skip
   repeat' (first|exact trivial|((conv=>whnf);first|exact trivial|refine⟨AV.le_refl _,?_⟩|refine⟨ABlk.le_refl _,?_⟩|fail)|fail)
 ·have hjj:¬ (j:Int) - 1≥0:=hjj
  obtain rfl:j=0:=by omega
  simp only [List.take_zero,List.reverse_nil,flRow] at he
  rw [← he] at hk
  conv=>whnf
  exact hr _ _ _ (stK ns root n G' of ex np pf) _ (Wk1.refl _ _ _) rfl rfl stK_cl hk
theorem updF_eq {f:Nat→List AV} {a i:Nat} {c:List AV}:updF f a c i=if i=a then c else f i:=by
 unfold updF
 cases h:Nat.beq i a with
 | true=>rw [if_pos (Nat.eq_of_beq_eq_true h)]
 | false=>rw [if_neg (fun e=>by rw [e] at h;simp at h)]
theorem gn_upd {G:Nat→GN} {j a1 a2:Nat} {c1 c2:List AV} {v:AV} {ra:Int} (h1:a1=j) (h2:a2=j) (hc1:c1=[v]) (hc2:c2=[intV ra]) (i:Nat) :
  updF (updF (fun i=>pvs (gnF G i)) a1 (putCells ((fun i=>pvs (gnF G i)) a1) (0+3) c1)) a2 (putCells (updF (fun i=>pvs (gnF G i)) a1 (putCells ((fun i=>pvs (gnF G i)) a1) (0+3) c1) a2) (0+4) c2) i =
   if i=j then [intV (G j).k,intV (G j).pl,intV (G j).pr,v,intV ra] else pvs (gnF G i):=by
 subst h1 h2 hc1 hc2
 simp only [updF_eq,if_true]
 split
 ·rfl
 ·rfl
theorem gn_set {n:Nat} {G:Nat→GN} {j:Nat} {nx:List Int} {v:AV} {ra:Int} {f:Nat→List AV} (hv:v=.p (nxP nx)) (hf:∀ i,i<n→f i=if i=j then [intV (G j).k,intV (G j).pl,intV (G j).pr,v,intV ra] else pvs (gnF G i)) :
  (ABlk.arr 44 5 0 n f).le (gnA n (setG G j nx ra)):=by
 subst hv
 refine ABlk.arr_eq rfl fun i hi=>?_
 rw [hf i hi]
 by_cases e:i=j
 ·subst e;simp [gnF,setG,pvs,intV]
 ·simp [gnF,setG,e]
theorem gn_fz {n r len:Nat} {g:Nat→List PV} {G:Nat→GN} {j:Nat} {nx:List Int} {v:AV} {ra:Int} {f:Nat→List AV} (hv:v=.slr r 0 0 len) (hx:nxP nx=.sl 1 len g) (hf:∀ i,f i=if i=j then [intV (G j).k,intV (G j).pl,intV (G j).pr,v,intV ra] else pvs (gnF G i)) :
  ∀ i,i<n→fswL r 1 len g (f i) (pvs (gnF (setG G j nx ra) i)):=fun i _=>by
 subst hv
 rw [hf i]
 by_cases e:i=j
 ·subst e
  simp only [if_true,gnF,setG,hx,pvs]
  exact⟨.inl (AV.le_refl _),.inl (AV.le_refl _),.inl (AV.le_refl _),.inr ⟨rfl,rfl⟩,.inl (AV.le_refl _),trivial⟩
 ·simp only [e,if_false,gnF,setG]
  exact⟨.inl (AV.le_refl _),.inl (AV.le_refl _),.inl (AV.le_refl _),.inl (AV.le_refl _),.inl (AV.le_refl _),trivial⟩
theorem row2 {f:Nat→List AV} {g:Nat→List PV} (h0:f 0=pvs (g 0)) (h1:f 1=pvs (g 1)):∀ i,i<2→f i=pvs (g i):=fun i hi=>by
 rcases (by omega:i=0∨i=1) with rfl|rfl
 ·exact h0
 ·exact h1
theorem row1 {f:Nat→List AV} {g:Nat→List PV} (h0:f 0=pvs (g 0)):∀ i,i<1→f i=pvs (g i):=fun i hi=>by
 obtain rfl:i=0:=by omega
 exact h0
def eFblM (m:Nat):AC:=fun args K k=>∃ (ns:List Nd) (root:Int) (n:Nat) (G:Nat→GN) (of:Int→Option Nat) (ex:Int) (np:Nat) (pf:Nat→Int) (p:Nat) (fo h:Int) (X:List ABlk) (p':Int) (b:Int) (G':Nat→GN),
 args=[lpV,intV p',intV fo,intV h]∧K=stK ns root n G of ex np pf++X∧p'=(p:Int)∧RightT ns root∧p<ns.length∧p≤m∧(nd ns p).k=6∧OfOk ns of n p∧flBlock ns of ex m p fo h G=(b,G') ∧
 k (.ret (intV b)) (stK ns root n G' of ex np pf++X)
theorem fblE_ok {m:Nat} (h0:COk 83 (cFst m)):COk 49 (eFblM m):=by
 rintro args K k ⟨ns,root,n,G,of,ex,np,pf,p,fo,h,X,_,b,G',h1,h2,rfl,rt,h3,h4,h5,h6,h7,h8⟩
 exact fbl_ok h0 args K k ⟨ns,root,n,G,of,ex,np,pf,p,fo,h,X,h1,h2,rt,h3,h4,h5,h6,by rw [h7];exact h8⟩
theorem fst_ok:∀ m,COk 83 (cFst m):=by
 intro m
 induction m with
 | zero=>rintro args K k ⟨ns,root,n,G,of,ex,np,pf,p,fo,h,X,_,_,_,_,h,_⟩;omega
 | succ m ihm =>
 rintro args K k ⟨ns,root,n,G,of,ex,np,pf,p,fo,h,X,rfl,rfl,rt,hp,hpm,hst,hof,hk⟩
 obtain⟨j,hj,hjn⟩:=hof p (rt.self p hp).2 (Nat.le_refl _) hst
 have hat:atO of p=j:=by simp [atO,hj]
 simp only [flStmt,hat] at hk
 have hY:∀ a,ofG of (.i .i64 (p:Int))=some a→a=intV (j:Int):=fun a ha=>by simp [ofG,hj] at ha;exact ha.symm
 have hN:ofG of (.i .i64 (p:Int))=none→False:=fun hn=>by simp [ofG,hj] at hn
 have hlen:=rt.len
 have hkd:∀ q∈(nd ns p).kids,(nd ns q.toNat).k=6→(q.toNat<ns.length∧q.toNat≤m∧OfOk ns of n q.toNat∧q=(q.toNat:Int)):=fun q hq h6=>by
  obtain⟨q0,q1,_⟩:=rt.kid p hp q hq
  exact⟨by omega,by omega,hof.kid rt hp hq,by omega⟩
 obtain⟨ra,hrae⟩:∃ ra,(if raisesF ns p=true then h else -1)=ra:=⟨_,rfl⟩
 rw [hrae] at hk
 cases hrf:raisesF ns p
 all_goals
  rw [hrf] at hrae
  simp only [Bool.false_eq_true,reduceIte] at hrae
  by_cases k11:(nd ns p).k=11
  ·simp only [k11,reduceIte] at hk
   obtain⟨a,b,c,hks,_,hkb,hkc⟩:=rt.kids11 hp k11
   obtain⟨b1,G1,hb1⟩:∃ b1 G1,flBlock ns of ex m b.toNat fo h G=(b1,G1):=⟨_,_,rfl⟩
   obtain⟨b2,G2,hb2⟩:∃ b2 G2,flBlock ns of ex m c.toNat fo h G1=(b2,G2):=⟨_,_,rfl⟩
   have hk:k (.ret (intV (j:Int))) (stK ns root n (setG G2 j [b1,b2] ra) of ex np pf++X):=by
    simp only [flBlock] at hb1 hb2
    rw [hks] at hk
    simp only [List.getD_cons_succ,List.getD_cons_zero,hb1,hb2] at hk
    exact hk
   obtain⟨c1,c2,c3,c4⟩:=hkd b (by rw [hks];simp) hkb
   obtain⟨d1,d2,d3,d4⟩:=hkd c (by rw [hks];simp) hkc
   have hq1:(ns.getD p default).kids.getD 1 0=(b.toNat:Int):=by rw [show (ns.getD p default).kids=_ from hks];exact c4
   have hq2:(ns.getD p default).kids.getD 2 0=(c.toNat:Int):=by rw [show (ns.getD p default).kids=_ from hks];exact d4
   have hl1:(1:Int)<((ns.getD p default).kids.length:Int):=by rw [show (ns.getD p default).kids=_ from hks];simp
   have hl2:(2:Int)<((ns.getD p default).kids.length:Int):=by rw [show (ns.getD p default).kids=_ from hks];simp
   refine frameZ (K0:=stK ns root n G of ex np pf) (gput_ok (fblE_ok ihm) (gput_ok eRaise_ok g0_ok)) 19 rfl stK_cl fun Q hr=>?_
   conv=>whnf
   refine⟨⟨by omega,by omega,rfl⟩,?_⟩
   conv=>whnf
   refine⟨fun av ha=>?_,fun hn=>(hN hn).elim⟩
   obtain rfl:=hY av ha
   conv=>whnf
   repeat ((refine And.intro ?_ ?_);(focus ((conv=>whnf);first|done|exact⟨⟨by omega,by omega,rfl⟩,by conv=>whnf⟩|exact⟨fun a ha=>by obtain rfl:=hY a ha;(conv=>whnf),fun hn=>(hN hn).elim⟩));conv=>whnf)
   refine⟨ns,root,p,_,rfl,rt.toStd,hp,hrf,?_⟩
   conv=>whnf
   refine two_eq (fun _=>?_) (fun h=>absurd k11 h)
   conv=>whnf
   refine Chk.mk ⟨by decide,hl1,rfl⟩ ?_
   conv=>whnf
   refine Chk.mk ⟨by decide,hl2,rfl⟩ ?_
   conv=>whnf
   refine⟨ns,root,n,G,of,ex,np,pf,b.toNat,fo,h,_,_,b1,G1,rfl,rfl,hq1,rt,c1,c2,hkb,c3,hb1,?_⟩
   conv=>whnf
   repeat ((refine And.intro ?_ ?_);(focus ((conv=>whnf);first|done|exact⟨⟨by decide,hl2,rfl⟩,by conv=>whnf⟩));conv=>whnf)
   refine⟨ns,root,n,G1,of,ex,np,pf,c.toNat,fo,h,_,_,b2,G2,rfl,rfl,hq2,rt,d1,d2,hkc,d3,hb2,?_⟩
   conv=>whnf
   repeat' (first|(refine Chk.mk ⟨rfl,rfl⟩ ?_;conv=>whnf)|(refine Chk.mk ⟨rfl,Nat.zero_add _,by omega,by omega,rfl⟩ ?_;conv=>whnf)|((refine And.intro ?_ ?_);(focus ((conv=>whnf);first|done|exact⟨⟨rfl,Nat.zero_add _,by omega,by omega,rfl⟩,by conv=>whnf⟩));conv=>whnf)|(refine And.intro ?_ ?_<;>conv=>whnf)|fail)
   try rw [← hrae] at hk
   exact hr _ _ _ (stK ns root n (setG G2 j [b1,b2] _) of ex np pf) _ (Wk1.fz7 (r:=2) (kidF [b1,b2]) rfl (row2 rfl rfl) (.inr ⟨_,_,_,_,_,_,rfl,rfl,gn_fz rfl rfl fun i=>gn_upd (Nat.zero_add _) (Nat.zero_add _) rfl rfl i⟩)) rfl rfl stK_cl hk
  ·simp only [k11,if_false] at hk
   by_cases k12:(nd ns p).k=12
   ·simp only [k12,reduceIte] at hk
    obtain⟨a,b,hks,_,hkb⟩:=rt.kids12 hp k12
    obtain⟨b1,G1,hb1⟩:∃ b1 G1,flBlock ns of ex m b.toNat (j:Int) h G=(b1,G1):=⟨_,_,rfl⟩
    have hk:k (.ret (intV (j:Int))) (stK ns root n (setG G1 j [b1,fo] ra) of ex np pf++X):=by
     simp only [flBlock] at hb1
     rw [hks] at hk
     simp only [List.getD_cons_succ,List.getD_cons_zero,hb1] at hk
     exact hk
    obtain⟨c1,c2,c3,c4⟩:=hkd b (by rw [hks];simp) hkb
    have hq1:(ns.getD p default).kids.getD 1 0=(b.toNat:Int):=by rw [show (ns.getD p default).kids=_ from hks];exact c4
    have hl1:(1:Int)<((ns.getD p default).kids.length:Int):=by rw [show (ns.getD p default).kids=_ from hks];simp
    refine frameZ (K0:=stK ns root n G of ex np pf) (gput_ok (fblE_ok ihm) (gput_ok eRaise_ok g0_ok)) 19 rfl stK_cl fun Q hr=>?_
    conv=>whnf
    refine⟨⟨by omega,by omega,rfl⟩,?_⟩
    conv=>whnf
    refine⟨fun av ha=>?_,fun hn=>(hN hn).elim⟩
    obtain rfl:=hY av ha
    conv=>whnf
    repeat ((refine And.intro ?_ ?_);(focus ((conv=>whnf);first|done|exact⟨⟨by omega,by omega,rfl⟩,by conv=>whnf⟩|exact⟨fun a ha=>by obtain rfl:=hY a ha;(conv=>whnf),fun hn=>(hN hn).elim⟩));conv=>whnf)
    refine⟨ns,root,p,_,rfl,rt.toStd,hp,hrf,?_⟩
    conv=>whnf
    refine two_eq (fun h=>absurd (show (nd ns p).k=11 from h) (k11)) (fun _=>?_)
    conv=>whnf
    refine two_eq (fun _=>?_) (fun h=>absurd k12 h)
    conv=>whnf
    refine Chk.mk ⟨by decide,hl1,rfl⟩ ?_
    conv=>whnf
    refine⟨ns,root,n,G,of,ex,np,pf,b.toNat,(j:Int),h,_,_,b1,G1,rfl,rfl,hq1,rt,c1,c2,hkb,c3,hb1,?_⟩
    conv=>whnf
    repeat' (first|(refine Chk.mk ⟨rfl,rfl⟩ ?_;conv=>whnf)|(refine Chk.mk ⟨rfl,Nat.zero_add _,by omega,by omega,rfl⟩ ?_;conv=>whnf)|((refine And.intro ?_ ?_);(focus ((conv=>whnf);first|done|exact⟨⟨rfl,Nat.zero_add _,by omega,by omega,rfl⟩,by conv=>whnf⟩));conv=>whnf)|(refine And.intro ?_ ?_<;>conv=>whnf)|fail)
    try rw [← hrae] at hk
    exact hr _ _ _ (stK ns root n (setG G1 j [b1,fo] _) of ex np pf) _ (Wk1.fz7 (r:=2) (kidF [b1,fo]) rfl (row2 rfl rfl) (.inr ⟨_,_,_,_,_,_,rfl,rfl,gn_fz rfl rfl fun i=>gn_upd (Nat.zero_add _) (Nat.zero_add _) rfl rfl i⟩)) rfl rfl stK_cl hk
   simp only [k12,if_false] at hk
   by_cases k16:(nd ns p).k=16
   ·simp only [k16,reduceIte] at hk
    obtain⟨b,c,hks,hkb,hkc⟩:=rt.kids16 hp k16
    obtain⟨b1,G1,hb1⟩:∃ b1 G1,flBlock ns of ex m b.toNat fo (j:Int) G=(b1,G1):=⟨_,_,rfl⟩
    obtain⟨b2,G2,hb2⟩:∃ b2 G2,flBlock ns of ex m c.toNat fo h G1=(b2,G2):=⟨_,_,rfl⟩
    have hk:k (.ret (intV b1)) (stK ns root n (setG G2 j [b2] (-1)) of ex np pf++X):=by
     simp only [flBlock] at hb1 hb2
     rw [hks] at hk
     simp only [List.getD_cons_succ,List.getD_cons_zero,hb1,hb2] at hk
     exact hk
    obtain⟨c1,c2,c3,c4⟩:=hkd b (by rw [hks];simp) hkb
    obtain⟨d1,d2,d3,d4⟩:=hkd c (by rw [hks];simp) hkc
    have hq1:(ns.getD p default).kids.getD 0 0=(b.toNat:Int):=by rw [show (ns.getD p default).kids=_ from hks];exact c4
    have hq2:(ns.getD p default).kids.getD 1 0=(c.toNat:Int):=by rw [show (ns.getD p default).kids=_ from hks];exact d4
    have hl1:(0:Int)<((ns.getD p default).kids.length:Int):=by rw [show (ns.getD p default).kids=_ from hks];simp
    have hl2:(1:Int)<((ns.getD p default).kids.length:Int):=by rw [show (ns.getD p default).kids=_ from hks];simp
    refine frameZ (K0:=stK ns root n G of ex np pf) (gput_ok (fblE_ok ihm) (gput_ok eRaise_ok g0_ok)) 19 rfl stK_cl fun Q hr=>?_
    conv=>whnf
    refine⟨⟨by omega,by omega,rfl⟩,?_⟩
    conv=>whnf
    refine⟨fun av ha=>?_,fun hn=>(hN hn).elim⟩
    obtain rfl:=hY av ha
    conv=>whnf
    repeat ((refine And.intro ?_ ?_);(focus ((conv=>whnf);first|done|exact⟨⟨by omega,by omega,rfl⟩,by conv=>whnf⟩|exact⟨fun a ha=>by obtain rfl:=hY a ha;(conv=>whnf),fun hn=>(hN hn).elim⟩));conv=>whnf)
    refine⟨ns,root,p,_,rfl,rt.toStd,hp,hrf,?_⟩
    conv=>whnf
    refine two_eq (fun h=>absurd (show (nd ns p).k=11 from h) (k11)) (fun _=>?_)
    conv=>whnf
    refine two_eq (fun h=>absurd (show (nd ns p).k=12 from h) (k12)) (fun _=>?_)
    conv=>whnf
    refine two_eq (fun _=>?_) (fun h=>absurd k16 h)
    conv=>whnf
    refine Chk.mk ⟨by decide,hl1,rfl⟩ ?_
    conv=>whnf
    refine⟨ns,root,n,G,of,ex,np,pf,b.toNat,fo,(j:Int),_,_,b1,G1,rfl,rfl,hq1,rt,c1,c2,hkb,c3,hb1,?_⟩
    conv=>whnf
    refine Chk.mk ⟨by decide,hl2,rfl⟩ ?_
    conv=>whnf
    refine⟨ns,root,n,G1,of,ex,np,pf,c.toNat,fo,h,_,_,b2,G2,rfl,rfl,hq2,rt,d1,d2,hkc,d3,hb2,?_⟩
    conv=>whnf
    repeat' (first|(refine Chk.mk ⟨rfl,rfl⟩ ?_;conv=>whnf)|(refine Chk.mk ⟨rfl,Nat.zero_add _,by omega,by omega,rfl⟩ ?_;conv=>whnf)|((refine And.intro ?_ ?_);(focus ((conv=>whnf);first|done|exact⟨⟨rfl,Nat.zero_add _,by omega,by omega,rfl⟩,by conv=>whnf⟩));conv=>whnf)|(refine And.intro ?_ ?_<;>conv=>whnf)|fail)
    try rw [← hrae] at hk
    exact hr _ _ _ (stK ns root n (setG G2 j [b2] _) of ex np pf) _ (Wk1.fz7 (r:=2) (kidF [b2]) rfl (row1 rfl) (.inr ⟨_,_,_,_,_,_,rfl,rfl,gn_fz rfl rfl fun i=>gn_upd (Nat.zero_add _) (Nat.zero_add _) rfl rfl i⟩)) rfl rfl stK_cl hk
   simp only [k16,if_false] at hk
   by_cases k14:(nd ns p).k=14
   ·simp only [k14,reduceIte] at hk
    refine frameZ (K0:=stK ns root n G of ex np pf) (gput_ok (fblE_ok ihm) (gput_ok eRaise_ok g0_ok)) 19 rfl stK_cl fun Q hr=>?_
    conv=>whnf
    refine⟨⟨by omega,by omega,rfl⟩,?_⟩
    conv=>whnf
    refine⟨fun av ha=>?_,fun hn=>(hN hn).elim⟩
    obtain rfl:=hY av ha
    conv=>whnf
    repeat ((refine And.intro ?_ ?_);(focus ((conv=>whnf);first|done|exact⟨⟨by omega,by omega,rfl⟩,by conv=>whnf⟩|exact⟨fun a ha=>by obtain rfl:=hY a ha;(conv=>whnf),fun hn=>(hN hn).elim⟩));conv=>whnf)
    refine⟨ns,root,p,_,rfl,rt.toStd,hp,hrf,?_⟩
    conv=>whnf
    refine two_eq (fun h=>absurd (show (nd ns p).k=11 from h) (k11)) (fun _=>?_)
    conv=>whnf
    refine two_eq (fun h=>absurd (show (nd ns p).k=12 from h) (k12)) (fun _=>?_)
    conv=>whnf
    refine two_eq (fun h=>absurd (show (nd ns p).k=16 from h) (k16)) (fun _=>?_)
    conv=>whnf
    refine two_eq (fun _=>?_) (fun h=>absurd k14 h)
    conv=>whnf
    repeat' (first|(refine Chk.mk ⟨rfl,rfl⟩ ?_;conv=>whnf)|(refine Chk.mk ⟨rfl,Nat.zero_add _,by omega,by omega,rfl⟩ ?_;conv=>whnf)|((refine And.intro ?_ ?_);(focus ((conv=>whnf);first|done|exact⟨⟨rfl,Nat.zero_add _,by omega,by omega,rfl⟩,by conv=>whnf⟩));conv=>whnf)|(refine And.intro ?_ ?_<;>conv=>whnf)|fail)
    try rw [← hrae] at hk
    exact hr _ _ _ (stK ns root n (setG G j [ex] _) of ex np pf) _ (Wk1.fz7 (r:=2) (kidF [ex]) rfl (row1 rfl) (.inr ⟨_,_,_,_,_,_,rfl,rfl,gn_fz rfl rfl fun i=>gn_upd (Nat.zero_add _) (Nat.zero_add _) rfl rfl i⟩)) rfl rfl stK_cl hk
   simp only [k14,if_false] at hk
   by_cases k15:(nd ns p).k=15
   ·simp only [k15,reduceIte] at hk
    refine frameZ (K0:=stK ns root n G of ex np pf) (gput_ok (fblE_ok ihm) (gput_ok eRaise_ok g0_ok)) 19 rfl stK_cl fun Q hr=>?_
    conv=>whnf
    refine⟨⟨by omega,by omega,rfl⟩,?_⟩
    conv=>whnf
    refine⟨fun av ha=>?_,fun hn=>(hN hn).elim⟩
    obtain rfl:=hY av ha
    conv=>whnf
    repeat ((refine And.intro ?_ ?_);(focus ((conv=>whnf);first|done|exact⟨⟨by omega,by omega,rfl⟩,by conv=>whnf⟩|exact⟨fun a ha=>by obtain rfl:=hY a ha;(conv=>whnf),fun hn=>(hN hn).elim⟩));conv=>whnf)
    refine⟨ns,root,p,_,rfl,rt.toStd,hp,hrf,?_⟩
    conv=>whnf
    refine two_eq (fun h=>absurd (show (nd ns p).k=11 from h) (k11)) (fun _=>?_)
    conv=>whnf
    refine two_eq (fun h=>absurd (show (nd ns p).k=12 from h) (k12)) (fun _=>?_)
    conv=>whnf
    refine two_eq (fun h=>absurd (show (nd ns p).k=16 from h) (k16)) (fun _=>?_)
    conv=>whnf
    refine two_eq (fun h=>absurd (show (nd ns p).k=14 from h) (k14)) (fun _=>?_)
    conv=>whnf
    refine two_eq (fun _=>?_) (fun h=>absurd k15 h)
    conv=>whnf
    repeat' (first|(refine Chk.mk ⟨rfl,rfl⟩ ?_;conv=>whnf)|(refine Chk.mk ⟨rfl,Nat.zero_add _,by omega,by omega,rfl⟩ ?_;conv=>whnf)|((refine And.intro ?_ ?_);(focus ((conv=>whnf);first|done|exact⟨⟨rfl,Nat.zero_add _,by omega,by omega,rfl⟩,by conv=>whnf⟩));conv=>whnf)|(refine And.intro ?_ ?_<;>conv=>whnf)|fail)
    try rw [← hrae] at hk
    exact hr _ _ _ (stK ns root n (setG G j [] _) of ex np pf) _ (Wk1.le (AV.le_refl _) ⟨ABlk.le_refl _,ABlk.le_refl _,ABlk.le_refl _,ABlk.le_refl _,ABlk.le_refl _,gn_set rfl (fun i _=>gn_upd (Nat.zero_add _) (Nat.zero_add _) rfl rfl i),ABlk.le_refl _,lesK.refl _⟩) rfl rfl stK_cl hk
   simp only [k15,if_false] at hk
   refine frameZ (K0:=stK ns root n G of ex np pf) (gput_ok (fblE_ok ihm) (gput_ok eRaise_ok g0_ok)) 19 rfl stK_cl fun Q hr=>?_
   conv=>whnf
   refine⟨⟨by omega,by omega,rfl⟩,?_⟩
   conv=>whnf
   refine⟨fun av ha=>?_,fun hn=>(hN hn).elim⟩
   obtain rfl:=hY av ha
   conv=>whnf
   repeat ((refine And.intro ?_ ?_);(focus ((conv=>whnf);first|done|exact⟨⟨by omega,by omega,rfl⟩,by conv=>whnf⟩|exact⟨fun a ha=>by obtain rfl:=hY a ha;(conv=>whnf),fun hn=>(hN hn).elim⟩));conv=>whnf)
   refine⟨ns,root,p,_,rfl,rt.toStd,hp,hrf,?_⟩
   conv=>whnf
   refine two_eq (fun h=>absurd (show (nd ns p).k=11 from h) (k11)) (fun _=>?_)
   conv=>whnf
   refine two_eq (fun h=>absurd (show (nd ns p).k=12 from h) (k12)) (fun _=>?_)
   conv=>whnf
   refine two_eq (fun h=>absurd (show (nd ns p).k=16 from h) (k16)) (fun _=>?_)
   conv=>whnf
   refine two_eq (fun h=>absurd (show (nd ns p).k=14 from h) (k14)) (fun _=>?_)
   conv=>whnf
   refine two_eq (fun h=>absurd (show (nd ns p).k=15 from h) (k15)) (fun _=>?_)
   conv=>whnf
   repeat' (first|(refine Chk.mk ⟨rfl,rfl⟩ ?_;conv=>whnf)|(refine Chk.mk ⟨rfl,Nat.zero_add _,by omega,by omega,rfl⟩ ?_;conv=>whnf)|((refine And.intro ?_ ?_);(focus ((conv=>whnf);first|done|exact⟨⟨rfl,Nat.zero_add _,by omega,by omega,rfl⟩,by conv=>whnf⟩));conv=>whnf)|(refine And.intro ?_ ?_<;>conv=>whnf)|fail)
   try rw [← hrae] at hk
   exact hr _ _ _ (stK ns root n (setG G j [fo] _) of ex np pf) _ (Wk1.fz7 (r:=1) (kidF [fo]) rfl (row1 rfl) (.inr ⟨_,_,_,_,_,_,rfl,rfl,gn_fz rfl rfl fun i=>gn_upd (Nat.zero_add _) (Nat.zero_add _) rfl rfl i⟩)) rfl rfl stK_cl hk
def intR (ver:Nat) (l:List Int):ABlk:=.arr 3 1 ver l.length (fun i=>[intV (l.getD i 0)])
theorem getD_left {l l2:List Int} {i:Nat} (h:i<l.length):(l++l2).getD i 0=l.getD i 0:=by
 rw [List.getD_eq_getElem?_getD,List.getD_eq_getElem?_getD,List.getElem?_append_left h]
theorem getD_right {l l2:List Int} {i:Nat} (h:l.length≤i):(l++l2).getD i 0=l2.getD (i - l.length) 0:=by
 rw [List.getD_eq_getElem?_getD,List.getD_eq_getElem?_getD,List.getElem?_append_right h]
theorem intR_cat {ver n m:Nat} {l l2:List Int} {f g:Nat→List AV} (hn:n=l.length) (hm:m=l2.length) (hf:∀ i,i<l.length→f i=[intV (l.getD i 0)]) (hg:∀ i,i<l2.length→g i=[intV (l2.getD i 0)]) :
  (ABlk.arr 3 1 ver (n+m) (catF n f g)).le (intR ver (l++l2)):=by
 subst hn hm
 refine ABlk.arr_eq (by simp) fun i hi=>?_
 by_cases h:i<l.length
 ·rw [catF_lt h,hf i h,getD_left h]
 ·rw [catF_ge (by omega),hg _ (by omega),getD_right (by omega)]
theorem intR_one {ver n:Nat} {l:List Int} {v v':Int} (hn:n=l.length) (hv:v'=v):(ABlk.arr 3 1 ver (n+1) (catF n (fun i=>[intV (l.getD i 0)]) fun i=>takeN (dropN [intV v'] (i*1)) 1)).le (intR ver (l++[v])) :=
 intR_cat hn rfl (fun _ _=>rfl) fun i hi=>by
  obtain rfl:i=0:=(by simp at hi;omega)
  exact congrArg (fun x=>[intV x]) hv
theorem catI_cl {ty n m:Nat} {ver k:Nat} {f g:Nat→List AV} (hf:∀ i,i<n→AV.cls m (f i)=true) (hg:∀ i,i<k→AV.cls m (g i)=true):(ABlk.arr ty 1 ver (n+k) (catF n f g)).cl m:=fun i hi=>by
 by_cases h:i<n
 ·rw [catF_lt h];exact hf i h
 ·rw [catF_ge (by omega)];exact hg _ (by omega)
theorem oneI_cl {m:Nat} {v:AV} (hv:AV.cl m v=true):∀ i,i<1→AV.cls m (takeN (dropN [v] (i*1)) 1)=true:=fun i hi=>by
 obtain rfl:i=0:=by omega
 simp [dropN,takeN,AV.cls,hv]
theorem Wk1.fzL {N r ty ver n:Nat} {K:List ABlk} {l:List Int} (hl:l.length=n) (hr:nth K r=some (.arr ty 1 ver n fun i=>[intV (l.getD i 0)])):Wk1 N (.slr r ver 0 n) K (intsV l) (setN K r .dead):=by
 subst hl
 exact Wk1.freeze hr (kidF l) fun _ _=>rfl
theorem Wk1.fzOne {N r ty ver:Nat} {K:List ABlk} {l:List Int} {x:Int} {f:Nat→List AV} (hf:∀ i,i<l.length+1→f i=[intV ((l++[x]).getD i 0)]) (hr:nth K r=some (.arr ty 1 ver (l.length+1) f)):Wk1 N (.slr r ver 0 (l.length+1)) K (intsV (l++[x])) (setN K r .dead):=by
 have e:intsV (l++[x])=.p (.sl 1 (l.length+1) (kidF (l++[x]))):=by unfold intsV;rw [List.length_append];rfl
 rw [e]
 exact Wk1.freeze hr _ hf
theorem cat_one {l:List Int} {x:Int} {i:Nat} (hi:i<l.length+1):catF l.length (fun i=>[intV (l.getD i 0)]) (fun i=>takeN (dropN [intV x] (i*1)) 1) i=[intV ((l++[x]).getD i 0)]:=by
 by_cases h:i<l.length
 ·rw [catF_lt h,getD_left h]
 ·obtain rfl:i=l.length:=by omega
  rw [catF_ge (Nat.le_refl _),getD_right (Nat.le_refl _),Nat.sub_self];rfl
end Go.Proofs.YtcmepkfefoidcaaGreatDoor
namespace Go.Proofs
open Go.Shelf
def Tryz.laysNm215_ren:Go.Shelf.Ren:=⟨fun|15=>46|n=>n,fun|22=>23|3=>3|4=>4|n=>n,fun|n=>n⟩
theorem Tryz.laysNm215:Go.Proofs.Lays2.n15 Tryz.prog Tryz.laysNm215_ren:={
 mixed:=by kernel_rfl
 f15:=Tryz.func46.trans (congrArg some (by kernel_rfl))
 t3:=Tryz.underlying3
 a3:=Tryz.isAgg3
 z3:=Tryz.sizeOf3
 v3:=Tryz.zeroValue3
 t4:=Tryz.underlying4
 a4:=Tryz.isAgg4
 z4:=Tryz.sizeOf4
 v4:=Tryz.zeroValue4
 t22:=Tryz.underlying23
 a22:=Tryz.isAgg23
 z22:=Tryz.sizeOf23
 v22:=Tryz.zeroValue23
 i3:=by kernel_rfl }
open Go.RowKit Go.Lib in
theorem Tryz.slices_Clone_int (b off n c:Nat) (zs:List Int) (w:World) (hz:n≤zs.length) (hbig:n*8≤140737488355328) (hc:∀ j,j<zs.length→w.cell? ⟨b,off+j,none⟩=some (.int .i64 (zs.getD j 0))) :
  Calls Tryz.prog 46 #[.slice (some ⟨b,off,none⟩) n c] w fun e w'=>∃ v',e=.returned v'∧w'.ownsRow w.heap.size 3 1 v' n ((zs.take n).map (Value.int .i64))∧v'≠.slice none 0 0∧Below w.heap.size w w':=Any.slices_Clone_int Tryz.laysNm215 b off n c zs w hz hbig hc
open Go.RowKit Go.Lib in
theorem Tryz.slices_Clone_int_nil (n c:Nat) (w:World) :
  Calls Tryz.prog 46 #[.slice none n c] w fun e w'=>e=.returned (.slice none 0 0)∧w'=w:=Any.slices_Clone_int_nil Tryz.laysNm215 n c w
open Go.RowKit Go.Lib in
theorem Tryz.slices_Clone_int_zero (a:Addr) (c:Nat) (w:World) :
  Calls Tryz.prog 46 #[.slice (some a) 0 c] w fun e w'=>∃ v',e=.returned v'∧w'.ownsRow w.heap.size 3 1 v' 0 []∧v'≠.slice none 0 0∧Below w.heap.size w w':=Any.slices_Clone_int_zero Tryz.laysNm215 a c w
end Go.Proofs
namespace Go.Proofs.YtcmepkfefoidcaaGreatDoor
open Go.AE Go.Ru Go.RowKit
set_option maxRecDepth 100000
theorem snoc_app' {α:Type} (l:List α) (b:α):snoc l b=l++[b]:=by
 induction l with
 | nil=>rfl
 | cons a l ih=>simp only [snoc,ih,List.cons_append]
theorem vpInt {x:Int} {w:World} {I:Nat→Prop} {u:Value} (h:VP w I (.int .i64 x) u):u=.int .i64 x:=by cases h;rfl
def cCloneW:AC:=fun args K k=>∃ zs,args=[intsV zs]∧List.length zs<1000000∧k (.ret (.slr (len K) 0 0 zs.length)) (snoc K (intR 0 zs))
theorem cloneW_ok:COk 46 cCloneW:=by
 rintro args K k ⟨zs,rfl,hn,hk⟩
 refine⟨ent rfl rfl,fun w m Args hS hV=>?_⟩
 obtain⟨u,rfl,h1⟩:=vl1 hV
 have fin:∀ (v':Value) (w':World),w'.ownsRow w.heap.size 3 1 v' zs.length ((zs.take zs.length).map (Value.int .i64))→v'≠.slice none 0 0→Below w.heap.size w w' →
   ∃ m' a K',Tr w m w' m'∧St w' m' (hp K')∧V w' m' a v'∧k (.ret a) K':=by
  intro v' w' ho hne hB
  obtain⟨h1,h2⟩:=ho
  rcases h2 with ⟨h2,_⟩|⟨g,cap,cur,h2,h3,h4,h5,h6,h7,h8⟩
  ·exact absurd h2 hne
  subst h2
  have hg':g<w'.heap.size:=(Array.getElem?_eq_some_iff.1 h4).1
  obtain⟨t1,s1⟩:=own_ok (l:=.live 0 zs.length 1 cap) (b:=intR 0 zs) hS hB h3 hg' (.inr ⟨cap,cur,rfl,h5,h6,h4,h7,fun i hi=>⟨rfl,fun j hj=>by
   have hj:j=0:=by simpa using hj
   subst hj
   refine⟨.int .i64 (zs.getD i 0),?_,.p _ _ (.int ..)⟩
   have:=congrArg (fun L=>L[i]?) h8
   simp only [List.getElem?_take,Nat.mul_one,if_pos hi,Nat.add_zero] at this ⊢
   rw [Array.getElem?_toList] at this
   rw [this,List.take_of_length_le (Nat.le_refl _),List.getElem?_map,List.getElem?_eq_getElem hi]
   simp [List.getD_eq_getElem?_getD,List.getElem?_eq_getElem hi]⟩⟩)
  refine⟨_,.slr (len K) 0 0 zs.length,_,t1,s1,?_,hk⟩
  have:=V.slr (w:=w') (m:=m.set (len K) g (.live 0 zs.length 1 cap)) (len K) 0 0 zs.length zs.length 1 cap (by simp [Mp.set]) (Nat.zero_add _)
  simpa [Mp.set] using this
 cases h1 with
 | p _ _ h =>
  cases zs with
  | nil =>
   have h:VP w m.I (.sl 1 0 (kidF [])) u:=h
   have key:∃ a c,u=.slice a 0 c:=by
    generalize kidF []=q at h
    cases h with
    | sl0 _ _ a c=>exact⟨a,c,rfl⟩
    | sl _ _ _ b o c=>exact⟨_,_,rfl⟩
   obtain⟨a,c,rfl⟩:=key
   cases a with
   | none =>
    refine (Tryz.slices_Clone_int_nil 0 c w).mono fun e w' ⟨h3,h4⟩=>?_
    subst h3 h4
    obtain⟨m',h5,h6,h7⟩:=nil_core 3 1 (fun i=>[intV (([]:List Int).getD i 0)]) hS (nswK.refl K.length K)
    refine⟨m',.slr (len K) 0 0 0,snoc K (intR 0 []),h5,?_,?_,hk⟩
    ·rw [snoc_app'];exact h6
    ·rw [len_length];exact .slrNil _ _ none h7
   | some a =>
    refine (Tryz.slices_Clone_int_zero a c w).mono fun e w' ⟨v',h3,h4,h5,h6⟩=>?_
    subst h3
    exact fin v' w' h4 h5 h6
  | cons z l =>
   have h:VP w m.I (.sl 1 (l.length+1) (kidF (z::l))) u:=h
   cases h with
   | sl _ _ _ b o c u hI hcap hc hv =>
    have hcell:∀ j,j<(z::l).length→w.cell? ⟨b,o+j,none⟩=some (.int .i64 ((z::l).getD j 0)):=fun j hj=>by
     have h1:=hc j hj 0 (by simp [kidF])
     have h2:u j 0=.int .i64 ((z::l).getD j 0):=by
      exact vpInt (hv j hj 0 (by simp [kidF]))
     rw [Nat.mul_one,Nat.add_zero] at h1
     rw [h1,h2]
    refine (Tryz.slices_Clone_int b o (l.length+1) c (z::l) w (by simp) (by simp at hn;omega) hcell).mono fun e w' ⟨v',he,ho,hne,hB⟩=>?_
    subst he
    exact fin v' w' ho hne hB
end Go.Proofs.YtcmepkfefoidcaaGreatDoor
namespace Go.Ru
structure PG where
 n:Nat
 nx:Nat→List Nat
 en:Nat→Bool
inductive Way (g:PG):Nat→List Nat→Prop where
 | stop {i:Nat} (h:g.en i=true):Way g i [i]
 | go {i j:Nat} {l:List Nat} (hj:j∈g.nx i) (h:Way g j l):Way g i (i::l)
def PD (g:PG) (i k:Nat):Prop:=∀ l,Way g i l→k∈l
structure PGok (g:PG):Prop where
 rng:∀ i,i<g.n→∀ j∈g.nx i,j<g.n
 live:∀ i,i<g.n→∃ l,Way g i l
theorem Way.head {g:PG} {i:Nat} {l:List Nat} (h:Way g i l):i∈l:=by
 cases h<;>simp
theorem Way.rng {g:PG} (ok:PGok g) {i:Nat} {l:List Nat} (h:Way g i l) (hi:i<g.n):∀ x∈l,x<g.n:=by
 induction h with
 | stop=>intro x hx;simp at hx;omega
 | go hj _ ih =>
  intro x hx
  rcases List.mem_cons.1 hx with rfl|hx
  ·exact hi
  ·exact ih (ok.rng _ hi _ hj) x hx
theorem PD.refl (g:PG) (i:Nat):PD g i i:=fun _ h=>h.head
theorem pd_fix (g:PG) (i k:Nat):PD g i k↔k=i∨(g.en i=false∧∀ j∈g.nx i,PD g j k):=by
 constructor
 ·intro h
  by_cases e:k=i
  ·exact .inl e
  ·refine .inr ⟨?_,fun j hj l hl=>?_⟩
   ·cases hn:g.en i with
    | false=>rfl
    | true=>have:=h _ (.stop hn);simp at this;exact absurd this e
   ·have:=h _ (.go hj hl)
    rcases List.mem_cons.1 this with h1|h1
    ·exact absurd h1 e
    ·exact h1
 ·rintro (rfl|⟨h1,h2⟩) l hl
  ·exact hl.head
  ·cases hl with
   | stop h=>rw [h1] at h;cases h
   | go hj h=>exact List.mem_cons_of_mem _ (h2 _ hj _ h)
theorem pd_most {g:PG} {S:Nat→Nat→Prop} (hS:∀ i,i<g.n→∀ k,S i k→k=i∨(g.en i=false∧∀ j∈g.nx i,S j k)) (ok:PGok g) {i k:Nat} (hi:i<g.n) (h:S i k):PD g i k:=by
 intro l hl
 induction hl with
 | stop he =>
  rcases hS _ hi _ h with rfl|⟨h1,_⟩
  ·simp
  ·rw [h1] at he;cases he
 | go hj hw ih =>
  rcases hS _ hi _ h with rfl|⟨_,h2⟩
  ·simp
  ·exact List.mem_cons_of_mem _ (ih (ok.rng _ hi _ hj) (h2 _ hj))
theorem Way.cut {g:PG} {i k:Nat} {l:List Nat} (h:Way g i l) (hk:k∈l):∃ l',Way g k l'∧(∀ x∈l',x∈l)∧l'.length≤l.length∧(k≠i→l'.length<l.length):=by
 induction h with
 | stop he =>
  simp at hk;subst hk
  exact⟨_,.stop he,fun x hx=>hx,Nat.le_refl _,fun e=>absurd rfl e⟩
 | @go i j l hj hw ih =>
  by_cases e:k=i
  ·subst e
   exact⟨_,.go hj hw,fun x hx=>hx,Nat.le_refl _,fun e=>absurd rfl e⟩
  ·obtain⟨l',h1,h2,h3,_⟩:=ih ((List.mem_cons.1 hk).resolve_left e)
   exact⟨l',h1,fun x hx=>List.mem_cons_of_mem _ (h2 x hx),by simp;omega,fun _=>by simp;omega⟩
theorem PD.trans {g:PG} {i k m:Nat} (h:PD g i k) (h':PD g k m):PD g i m:=fun l hl=>by
 obtain⟨l',h1,h2,_⟩:=hl.cut (h l hl)
 exact h2 _ (h' _ h1)
theorem PD.anti {g:PG} {a b:Nat} (ha:∃ l,Way g a l) (h:PD g a b) (h':PD g b a):a=b:=by
 refine Decidable.byContradiction fun hne=>?_
 obtain⟨l,hl⟩:=ha
 have key:∀ m (l:List Nat),l.length≤m→Way g a l→False:=by
  intro m
  induction m with
  | zero=>intro l hlm hl;have:=hl.head;cases l<;>simp at this hlm
  | succ m ih =>
   intro l hlm hl
   obtain⟨l1,w1,_,_,c1⟩:=hl.cut (h l hl)
   obtain⟨l2,w2,_,c2,_⟩:=w1.cut (h' _ w1)
   have:=c1 (fun e=>hne e.symm)
   exact ih l2 (by omega) w2
 exact key l.length l (Nat.le_refl _) hl
theorem PD.lin {g:PG} {i a b:Nat} (hi:∃ l,Way g i l) (ha:PD g i a) (hb:PD g i b):PD g a b∨PD g b a:=by
 refine Classical.byContradiction fun hn=>?_
 rw [not_or] at hn
 obtain⟨h1,h2⟩:=hn
 obtain⟨la,wa,na⟩:∃ l,Way g a l∧b ∉ l:=by
  refine Classical.byContradiction fun h=>h1 fun l hl=>?_
  exact Classical.byContradiction fun hb=>h ⟨l,hl,hb⟩
 obtain⟨lb,wb,nb⟩:∃ l,Way g b l∧a ∉ l:=by
  refine Classical.byContradiction fun h=>h2 fun l hl=>?_
  exact Classical.byContradiction fun hb=>h ⟨l,hl,hb⟩
 obtain⟨l,hl⟩:=hi
 have key:∀ (i:Nat) (l:List Nat),Way g i l→a∈l∨b∈l→(∃ l',Way g i l'∧b ∉ l')∨(∃ l',Way g i l'∧a ∉ l'):=by
  intro i l hl
  induction hl with
  | stop he =>
   intro h
   rcases h with h|h<;>simp at h<;>subst h
   ·exact .inl ⟨la,wa,na⟩
   ·exact .inr ⟨lb,wb,nb⟩
  | @go i j l hj hw ih =>
   intro h
   by_cases e1:a=i
   ·subst e1;exact .inl ⟨la,wa,na⟩
   by_cases e2:b=i
   ·subst e2;exact .inr ⟨lb,wb,nb⟩
   have h:a∈l∨b∈l:=h.imp (fun h=>(List.mem_cons.1 h).resolve_left e1) (fun h=>(List.mem_cons.1 h).resolve_left e2)
   rcases ih h with ⟨l',w,n⟩|⟨l',w,n⟩
   ·exact .inl ⟨i::l',.go hj w,by simp [e2,n]⟩
   ·exact .inr ⟨i::l',.go hj w,by simp [e1,n]⟩
 rcases key i l hl (.inl (ha l hl)) with ⟨l',w,n⟩|⟨l',w,n⟩
 ·exact n (hb l' w)
 ·exact n (ha l' w)
theorem filter_lt {p q:Nat→Bool} (h:∀ x,p x=true→q x=true):∀ {l:List Nat} {y:Nat},y∈l→q y=true→p y=false→(l.filter p).length<(l.filter q).length:=by
 have le:∀ l:List Nat,(l.filter p).length≤(l.filter q).length:=by
  intro l
  induction l with
  | nil=>simp
  | cons a l ih =>
   simp only [List.filter_cons]
   cases hp:p a with
   | true=>rw [h a hp];simpa using ih
   | false=>cases q a<;>simp<;>omega
 intro l
 induction l with
 | nil=>intro y hy;simp at hy
 | cons a l ih =>
  intro y hy hq hp
  simp only [List.filter_cons]
  rcases List.mem_cons.1 hy with rfl|hy
  ·rw [hq,hp]
   have:=le l
   simp;omega
  ·have:=ih hy hq hp
   cases hpa:p a with
   | true=>rw [h a hpa];simpa using this
   | false=>cases q a<;>simp<;>omega
structure Pass (g:PG) (P:Nat→Nat→Bool):Prop where
 iff:∀ i,i<g.n→∀ k,P i k=true↔PD g i k
def cntP (g:PG) (P:Nat→Nat→Bool) (i:Nat):Nat:=((List.range g.n).filter (P i)).length
theorem Pass.lt {g:PG} {P:Nat→Nat→Bool} (h:Pass g P) (ok:PGok g) {a b:Nat} (ha:a<g.n) (hb:PD g a b) (hne:a≠b):b<g.n∧cntP g P b<cntP g P a:=by
 have hbn:b<g.n:=by
  obtain⟨l,hl⟩:=ok.live a ha
  exact hl.rng ok ha b (hb l hl)
 refine⟨hbn,filter_lt (fun x hx=>(h.iff a ha x).2 (hb.trans ((h.iff b hbn x).1 hx))) (List.mem_range.2 ha) ((h.iff a ha a).2 (.refl g a)) ?_⟩
 cases e:P b a with
 | false=>rfl
 | true=>exact absurd (PD.anti (ok.live a ha) hb ((h.iff b hbn a).1 e)) hne
theorem Pass.near {g:PG} {P:Nat→Nat→Bool} (h:Pass g P) (ok:PGok g) {i a b:Nat} (hi:i<g.n) (ha:PD g i a) (hb:PD g i b) (hc:cntP g P b≤cntP g P a) (hbn:b<g.n):PD g a b:=by
 rcases PD.lin (ok.live i hi) ha hb with h1|h1
 ·exact h1
 ·by_cases e:b=a
  ·subst e;exact .refl g b
  ·have:=(h.lt ok hbn h1 e).2
   omega
end Go.Ru
namespace Go.Ru
def FP (g:PG) (P:Nat→Nat→Bool) (i k:Nat):Bool:=k==i || (!g.en i&&(decide (k<g.n)&&(g.nx i).all fun j=>P j k))
def setP (P:Nat→Nat→Bool) (i:Nat) (s:Nat→Bool) (j:Nat):Nat→Bool:=if j=i then s else P j
structure SInv (g:PG) (P:Nat→Nat→Bool):Prop where
 most:∀ i,i<g.n→∀ k,PD g i k→P i k=true
 desc:∀ i,i<g.n→∀ k,FP g P i k=true→P i k=true
theorem FP_mono {g:PG} {P P':Nat→Nat→Bool} (ok:PGok g) (h:∀ j,j<g.n→∀ k,P' j k=true→P j k=true) {i:Nat} (hi:i<g.n) {k:Nat} (hk:FP g P' i k=true):FP g P i k=true:=by
 simp only [FP,Bool.or_eq_true,Bool.and_eq_true,List.all_eq_true] at hk ⊢
 rcases hk with hk|⟨h1,h2,h3⟩
 ·exact .inl hk
 ·exact .inr ⟨h1,h2,fun j hj=>h j (ok.rng i hi j hj) k (h3 j hj)⟩
theorem PD.rng {g:PG} (ok:PGok g) {i k:Nat} (hi:i<g.n) (h:PD g i k):k<g.n:=by
 obtain⟨l,hl⟩:=ok.live i hi
 exact hl.rng ok hi k (h l hl)
theorem SInv.FP {g:PG} {P:Nat→Nat→Bool} (h:SInv g P) (ok:PGok g) {i k:Nat} (hi:i<g.n) (hk:PD g i k):FP g P i k=true:=by
 have hkn:=hk.rng ok hi
 simp only [Go.Ru.FP,Bool.or_eq_true,Bool.and_eq_true,List.all_eq_true,beq_iff_eq]
 rcases (pd_fix g i k).1 hk with e|⟨h1,h2⟩
 ·exact .inl e
 ·exact .inr ⟨by simp [h1],by simp [hkn],fun j hj=>h.most j (ok.rng i hi j hj) k (h2 j hj)⟩
theorem SInv.upd {g:PG} {P:Nat→Nat→Bool} (h:SInv g P) (ok:PGok g) {i:Nat} (hi:i<g.n):SInv g (setP P i (Go.Ru.FP g P i)):=by
 have hle:∀ j,j<g.n→∀ k,setP P i (Go.Ru.FP g P i) j k=true→P j k=true:=fun j hj k hk=>by
  unfold setP at hk
  split at hk
  ·rename_i e;subst e;exact h.desc j hj k hk
  ·exact hk
 refine⟨fun j hj k hk=>?_,fun j hj k hk=>?_⟩
 ·unfold setP
  split
  ·rename_i e;subst e;exact h.FP ok hj hk
  ·exact h.most j hj k hk
 ·have:=FP_mono ok hle hj hk
  unfold setP
  split
  ·rename_i e;subst e;exact this
  ·exact h.desc j hj k this
def allP (n:Nat) (_ k:Nat):Bool:=decide (k<n)
theorem sinv0 {g:PG} (ok:PGok g):SInv g (allP g.n) :=
 ⟨fun i hi k hk=>decide_eq_true (hk.rng ok hi),fun i hi k hk=>by
  simp only [FP,Bool.or_eq_true,Bool.and_eq_true,beq_iff_eq,decide_eq_true_eq] at hk
  exact decide_eq_true (hk.elim (fun e=>e▸hi) fun h=>h.2.1)⟩
theorem SInv.pass {g:PG} {P:Nat→Nat→Bool} (h:SInv g P) (ok:PGok g) (hd:∀ i,i<g.n→∀ k,P i k=true→Go.Ru.FP g P i k=true):Pass g P:=by
 refine⟨fun i hi k=>⟨fun hk=>?_,h.most i hi k⟩⟩
 refine pd_most (S:=fun i k=>P i k=true) (fun i hi k hk=>?_) ok hi hk
 have:=hd i hi k hk
 simp only [Go.Ru.FP,Bool.or_eq_true,Bool.and_eq_true,List.all_eq_true,beq_iff_eq] at this
 rcases this with e|⟨h1,_,h3⟩
 ·exact .inl e
 ·exact .inr ⟨by simpa using h1,h3⟩
def sumP (g:PG) (P:Nat→Nat→Bool):Nat→Nat
 | 0=>0
 | m+1=>sumP g P m+cntP g P m
theorem sumP_same {g:PG} {P P':Nat→Nat→Bool}:∀ {m:Nat},(∀ j,j<m→P j=P' j)→sumP g P m=sumP g P' m:=by
 intro m
 induction m with
 | zero=>intro _;rfl
 | succ m ih =>
  intro h
  simp only [sumP,cntP]
  rw [ih fun j hj=>h j (by omega),h m (by omega)]
theorem sumP_less {g:PG} {P:Nat→Nat→Bool} {i:Nat} {s:Nat→Bool} (hc:((List.range g.n).filter s).length<cntP g P i):∀ {m:Nat},i<m→sumP g (setP P i s) m<sumP g P m:=by
 intro m
 induction m with
 | zero=>intro h;omega
 | succ m ih =>
  intro h
  simp only [sumP]
  by_cases e:i=m
  ·subst e
   have h1:sumP g (setP P i s) i=sumP g P i:=sumP_same fun j hj=>by simp only [setP,if_neg (show j≠i by omega)]
   have h2:cntP g (setP P i s) i=((List.range g.n).filter s).length:=by simp only [cntP,setP,if_pos]
   omega
  ·have:=ih (by omega)
   have h2:cntP g (setP P i s) m=cntP g P m:=by simp only [cntP,setP,if_neg (show m≠i by omega)]
   omega
structure Near (g:PG) (i:Nat) (o:Option Nat):Prop where
 none:o=.none→∀ k,PD g i k→k=i
 some:∀ k,o=.some k→k≠i∧PD g i k∧∀ m,PD g i m→m≠i→PD g k m
theorem Pass.nearest {g:PG} {P:Nat→Nat→Bool} (h:Pass g P) (ok:PGok g) {i k:Nat} (hi:i<g.n) (hk:PD g i k) (hne:k≠i) (hm:∀ m,PD g i m→m≠i→cntP g P m≤cntP g P k):Near g i (.some k) :=
 ⟨fun e=>by simp at e,fun k' e=>by
  injection e with e
  subst e
  exact⟨hne,hk,fun m hpm hmi=>h.near ok hi hk hpm (hm m hpm hmi) (hpm.rng ok hi)⟩⟩
def chainF (nx:Nat→Option Nat):Nat→Nat→List Nat
 | 0,_=>[]
 | m+1,i=>i::(match nx i with | .none=>[] | .some k=>chainF nx m k)
structure Nexts (g:PG) (nx:Nat→Option Nat):Prop where
 near:∀ i,i<g.n→Near g i (nx i)
theorem Nexts.lt {g:PG} {nx:Nat→Option Nat} {P:Nat→Nat→Bool} (h:Nexts g nx) (hP:Pass g P) (ok:PGok g) {i k:Nat} (hi:i<g.n) (e:nx i=.some k):k<g.n∧cntP g P k<cntP g P i:=by
 obtain⟨h1,h2,_⟩:=(h.near i hi).some k e
 exact hP.lt ok hi h2 (fun e=>h1 e.symm)
theorem Nexts.mem {g:PG} {nx:Nat→Option Nat} {P:Nat→Nat→Bool} (h:Nexts g nx) (hP:Pass g P) (ok:PGok g):∀ (m i:Nat),i<g.n→cntP g P i<m→∀ k,k∈chainF nx m i↔PD g i k:=by
 intro m
 induction m with
 | zero=>intro i _ hm;omega
 | succ m ih =>
  intro i hi hm k
  simp only [chainF]
  cases e:nx i with
  | none =>
   simp only [List.mem_cons,List.not_mem_nil,or_false]
   exact⟨fun e2=>e2▸.refl g i,fun hk=>(h.near i hi).none e k hk⟩
  | some j =>
   obtain⟨h1,h2,h3⟩:=(h.near i hi).some j e
   obtain⟨hj,hc⟩:=h.lt hP ok hi e
   simp only [List.mem_cons]
   rw [ih j hj (by omega) k]
   constructor
   ·rintro (rfl|hk)
    ·exact .refl g k
    ·exact h2.trans hk
   ·intro hk
    by_cases e2:k=i
    ·exact .inl e2
    ·exact .inr (h3 k hk e2)
theorem Nexts.once {g:PG} {nx:Nat→Option Nat} {P:Nat→Nat→Bool} (h:Nexts g nx) (hP:Pass g P) (ok:PGok g):∀ (m i:Nat),i<g.n→cntP g P i<m→(chainF nx m i).Nodup:=by
 intro m
 induction m with
 | zero=>intro i _ hm;omega
 | succ m ih =>
  intro i hi hm
  simp only [chainF]
  cases e:nx i with
  | none=>simp
  | some j =>
   obtain⟨h1,h2,h3⟩:=(h.near i hi).some j e
   obtain⟨hj,hc⟩:=h.lt hP ok hi e
   refine List.nodup_cons.2 ⟨fun hmem=>?_,ih j hj (by omega)⟩
   have:=(h.mem hP ok m j hj (by omega) i).1 hmem
   exact h1 (PD.anti (ok.live j hj) this h2)
theorem Nexts.more {g:PG} {nx:Nat→Option Nat} {P:Nat→Nat→Bool} (h:Nexts g nx) (hP:Pass g P) (ok:PGok g):∀ (m m' i:Nat),i<g.n→cntP g P i<m→cntP g P i<m'→chainF nx m i=chainF nx m' i:=by
 intro m
 induction m with
 | zero=>intro m' i _ hm;omega
 | succ m ih =>
  intro m' i hi hm hm'
  obtain⟨m'',rfl⟩:∃ x,m'=x+1:=⟨m' - 1,by omega⟩
  simp only [chainF]
  cases e:nx i with
  | none=>rfl
  | some j =>
   obtain⟨hj,hc⟩:=h.lt hP ok hi e
   simp only
   rw [ih m'' j hj (by omega) (by omega)]
end Go.Ru
namespace Go.Ru
def Live (g:PG) (i:Nat):Prop:=∃ l,Way g i l
def backL (g:PG) (i:Nat):List Nat:=(List.range g.n).flatMap fun j=>(g.nx j).filterMap fun k=>if k=i then some j else none
theorem backL_mem {g:PG} {i j:Nat}:j∈backL g i↔j<g.n∧i∈g.nx j:=by
 simp only [backL,List.mem_flatMap,List.mem_range,List.mem_filterMap]
 constructor
 ·rintro⟨a,ha,k,hk,h⟩
  split at h
  ·rename_i e;simp at h;subst h;subst e;exact⟨ha,hk⟩
  ·cases h
 ·rintro⟨h1,h2⟩
  exact⟨j,h1,i,h2,by simp⟩
structure BackI (g:PG) (seen:Nat→Bool) (left:List Nat):Prop where
 live:∀ i,(seen i=true∨i∈left)→i<g.n∧Live g i
 ends:∀ i,i<g.n→g.en i=true→seen i=true∨i∈left
 clos:∀ i,seen i=true→∀ j,j<g.n→i∈g.nx j→seen j=true∨j∈left
theorem back0 {g:PG} {left:List Nat} (h:∀ i,i∈left↔i<g.n∧g.en i=true):BackI g (fun _=>false) left :=
 ⟨fun i hi=>by
  have:=(h i).1 (hi.resolve_left (by simp))
  exact⟨this.1,_,.stop this.2⟩,fun i h1 h2=>.inr ((h i).2 ⟨h1,h2⟩),fun i hi=>by cases hi⟩
theorem BackI.skip {g:PG} {seen:Nat→Bool} {i:Nat} {left:List Nat} (h:BackI g seen (i::left)) (hs:seen i=true):BackI g seen left:=by
 have key:∀ j,seen j=true∨j∈i::left→seen j=true∨j∈left:=fun j hj=>by
  rcases hj with hj|hj
  ·exact .inl hj
  ·rcases List.mem_cons.1 hj with rfl|hj
   ·exact .inl hs
   ·exact .inr hj
 exact⟨fun j hj=>h.live j (hj.imp id fun h=>List.mem_cons_of_mem _ h),fun j h1 h2=>key j (h.ends j h1 h2),fun j hj k hk hn=>key k (h.clos j hj k hk hn)⟩
def setS8 (seen:Nat→Bool) (i j:Nat):Bool:=if j=i then true else seen j
theorem BackI.take {g:PG} {seen:Nat→Bool} {i:Nat} {left:List Nat} (h:BackI g seen (i::left)) {more:List Nat} (hm:∀ j,j∈more↔j<g.n∧i∈g.nx j):BackI g (setS8 seen i) (left++more):=by
 have hi:=h.live i (.inr (by simp))
 have key:∀ j,seen j=true∨j∈i::left→setS8 seen i j=true∨j∈left++more:=fun j hj=>by
  unfold setS8
  split
  ·exact .inl rfl
  ·rename_i e
   rcases hj with hj|hj
   ·exact .inl hj
   ·exact .inr (List.mem_append_left _ ((List.mem_cons.1 hj).resolve_left e))
 refine⟨fun j hj=>?_,fun j h1 h2=>key j (h.ends j h1 h2),fun j hj k hk hn=>?_⟩
 ·rcases hj with hj|hj
  ·unfold setS8 at hj
   split at hj
   ·rename_i e;subst e;exact hi
   ·exact h.live j (.inl hj)
  ·rcases List.mem_append.1 hj with hj|hj
   ·exact h.live j (.inr (List.mem_cons_of_mem _ hj))
   ·obtain⟨h1,h2⟩:=(hm j).1 hj
    obtain⟨_,l,hl⟩:=hi
    exact⟨h1,_,.go h2 hl⟩
 ·unfold setS8 at hj
  split at hj
  ·rename_i e;subst e
   exact .inr (List.mem_append_right _ ((hm k).2 ⟨hk,hn⟩))
  ·exact key k (h.clos j hj k hk hn)
theorem BackI.done {g:PG} {seen:Nat→Bool} (h:BackI g seen []) (hr:∀ i,i<g.n→∀ j∈g.nx i,j<g.n) {i:Nat} (hi:i<g.n):seen i=true↔Live g i:=by
 constructor
 ·exact fun e=>(h.live i (.inl e)).2
 ·rintro⟨l,hl⟩
  induction hl with
  | stop he=>exact (h.ends _ hi he).resolve_right (by simp)
  | go hj _ ih=>exact (h.clos _ (ih (hr _ hi _ hj)) _ hi hj).resolve_right (by simp)
def backM (g:PG) (seen:Nat→Bool):Nat→Nat
 | 0=>0
 | m+1=>backM g seen m+(if seen m=true then 0 else (backL g m).length+1)
theorem backM_same {g:PG} {s s':Nat→Bool}:∀ {m:Nat},(∀ j,j<m→s j=s' j)→backM g s m=backM g s' m:=by
 intro m
 induction m with
 | zero=>intro _;rfl
 | succ m ih =>
  intro h
  simp only [backM]
  rw [ih fun j hj=>h j (by omega),h m (by omega)]
theorem backM_take {g:PG} {s:Nat→Bool} {i:Nat} (hs:s i=false):∀ {m:Nat},i<m→backM g (setS8 s i) m+(backL g i).length+1=backM g s m:=by
 intro m
 induction m with
 | zero=>intro h;omega
 | succ m ih =>
  intro h
  simp only [backM]
  by_cases e:i=m
  ·subst e
   have h1:backM g (setS8 s i) i=backM g s i:=backM_same fun j hj=>by simp only [setS8,if_neg (show j≠i by omega)]
   rw [h1,hs,show setS8 s i i=true by simp [setS8]]
   simp
   omega
  ·have:=ih (by omega)
   rw [show setS8 s i m=s m by simp only [setS8,if_neg (show m≠i by omega)]]
   omega
end Go.Ru
namespace Go.Ru
structure PM where
 N:List Int
 g:PG
 P:Nat→Nat→Bool
 nx:Nat→Option Nat
def posL (y:Int):List Int→Option Nat
 | []=>none
 | a::l=>if a=y then some 0 else (posL y l).map (·+1)
theorem posL_some {y:Int}:∀ {l:List Int} {i:Nat},posL y l=some i→i<l.length∧l.getD i 0=y:=by
 intro l
 induction l with
 | nil=>intro i h;cases h
 | cons a l ih =>
  intro i h
  simp only [posL] at h
  split at h
  ·injection h with h;subst h;rename_i e;exact⟨by simp,by simpa using e⟩
  ·cases hp:posL y l with
   | none=>rw [hp] at h;cases h
   | some j =>
    rw [hp] at h
    simp at h;subst h
    obtain⟨h1,h2⟩:=ih hp
    exact⟨by simp;omega,by simpa using h2⟩
theorem posL_at:∀ {l:List Int},l.Nodup→∀ {i:Nat},i<l.length→posL (l.getD i 0) l=some i:=by
 intro l
 induction l with
 | nil=>intro _ i h;simp at h
 | cons a l ih =>
  intro hn i hi
  obtain⟨h1,h2⟩:=List.nodup_cons.1 hn
  cases i with
  | zero=>simp [posL]
  | succ i =>
   have hi:i<l.length:=by simpa using hi
   have hm:l.getD i 0∈l:=by
    rw [List.getD_eq_getElem?_getD,List.getElem?_eq_getElem hi];exact List.getElem_mem hi
   have hne:a≠l.getD i 0:=fun e=>h1 (e▸hm)
   simp only [posL,List.getD_cons_succ,if_neg hne,ih h2 hi,Option.map_some]
theorem posL_mem {y:Int} {l:List Int} (hn:l.Nodup):(∃ i,posL y l=some i)↔y∈l:=by
 constructor
 ·rintro⟨i,h⟩
  obtain⟨h1,h2⟩:=posL_some h
  rw [← h2,List.getD_eq_getElem?_getD,List.getElem?_eq_getElem h1];exact List.getElem_mem h1
 ·intro h
  obtain⟨i,hi,e⟩:=List.getElem_of_mem h
  refine⟨i,?_⟩
  have:=posL_at hn hi
  rwa [List.getD_eq_getElem?_getD,List.getElem?_eq_getElem hi,Option.getD_some,e] at this
structure PMok (M:PM):Prop where
 len:M.g.n=M.N.length
 nd:M.N.Nodup
 pos:∀ y∈M.N,0≤y
 ok:PGok M.g
 pass:Pass M.g M.P
 nxt:Nexts M.g M.nx
def passM (M:PM) (a b:Int):Bool :=
 if a=-1 then b==-1 else match posL a M.N with
  | none=>false
  | some i=>if b=-1 then true else match posL b M.N with
   | none=>false
   | some k=>M.P i k
def nextM (M:PM) (a:Int):Int:=match posL a M.N with
 | none=>-2
 | some i=>match M.nx i with
  | none=>-1
  | some k=>M.N.getD k 0
def chainM (M:PM) (a:Int):List Int:=match posL a M.N with
 | none=>[]
 | some i=>(chainF M.nx (M.g.n+1) i).map fun k=>M.N.getD k 0
def commonL (l:List Int):List Int→Int
 | []=>-1
 | a::r=>if a∈l then a else commonL l r
def commonM (M:PM) (a b:Int):Int:=commonL (chainM M b) (chainM M a)
section
variable {M:PM} (h:PMok M)
include h
omit h in
theorem PMok.cnt (i:Nat):cntP M.g M.P i<M.g.n+1:=by
 unfold cntP
 have:=List.length_filter_le (M.P i) (List.range M.g.n)
 simp only [List.length_range] at this
 omega
theorem PMok.at {i:Nat} (hi:i<M.g.n):posL (M.N.getD i 0) M.N=some i:=posL_at h.nd (by rw [← h.len];exact hi)
theorem PMok.no:posL (-1) M.N=none:=by
 cases e:posL (-1) M.N with
 | none=>rfl
 | some i =>
  have:=h.pos _ ((posL_mem h.nd).1 ⟨i,e⟩)
  omega
theorem PMok.in_ {a:Int} {i:Nat} (e:posL a M.N=some i):i<M.g.n∧M.N.getD i 0=a∧a≠-1:=by
 obtain⟨h1,h2⟩:=posL_some e
 refine⟨by rw [h.len];exact h1,h2,fun e2=>?_⟩
 rw [e2,h.no] at e;cases e
theorem passM_in {a b:Int} {i k:Nat} (ha:posL a M.N=some i) (hb:posL b M.N=some k):passM M a b=M.P i k:=by
 obtain⟨_,_,a1⟩:=h.in_ ha
 obtain⟨_,_,b1⟩:=h.in_ hb
 simp only [passM,if_neg a1,if_neg b1,ha,hb]
theorem chain_mem {a b:Int}:b∈chainM M a↔∃ i k,posL a M.N=some i∧posL b M.N=some k∧M.P i k=true:=by
 unfold chainM
 cases e:posL a M.N with
 | none=>simp
 | some i =>
  obtain⟨hi,_,_⟩:=h.in_ e
  simp only [List.mem_map]
  constructor
  ·rintro⟨k,hk,rfl⟩
   have hpd:=(h.nxt.mem h.pass h.ok _ i hi (PMok.cnt i) k).1 hk
   exact⟨i,k,rfl,h.at (hpd.rng h.ok hi),(h.pass.iff i hi k).2 hpd⟩
  ·rintro⟨i',k,e1,e2,e3⟩
   injection e1 with e1
   subst e1
   obtain⟨_,h2,_⟩:=h.in_ e2
   exact⟨k,(h.nxt.mem h.pass h.ok _ i hi (PMok.cnt i) k).2 ((h.pass.iff i hi k).1 e3),h2⟩
theorem order4 {a b:Int} (hb:b≠-1):passM M a b=decide (b∈chainM M a):=by
 rw [Bool.eq_iff_iff,decide_eq_true_eq,chain_mem h]
 by_cases ha:a=-1
 ·subst ha
  simp only [passM,if_pos,h.no]
  simp [hb]
 ·simp only [passM,if_neg ha,if_neg hb]
  cases e:posL a M.N with
  | none=>simp
  | some i =>
   simp only
   cases e2:posL b M.N with
   | none=>simp
   | some k=>simp
theorem order1 {a:Int} (ha:a∈M.N):passM M a a=true∧passM M a (-1)=true∧a∈chainM M a:=by
 obtain⟨i,e⟩:=(posL_mem h.nd).2 ha
 obtain⟨hi,_,a1⟩:=h.in_ e
 have hp:M.P i i=true:=(h.pass.iff i hi i).2 (.refl _ i)
 refine⟨by rw [passM_in h e e];exact hp,by simp only [passM,if_neg a1,e,if_pos],(chain_mem h).2 ⟨i,i,e,e,hp⟩⟩
theorem chains {a:Int} (ha:a∈M.N):chainM M a=a::chainM M (nextM M a)∧(chainM M a).Nodup:=by
 obtain⟨i,e⟩:=(posL_mem h.nd).2 ha
 obtain⟨hi,a1,_⟩:=h.in_ e
 constructor
 ·have e1:chainM M a=(chainF M.nx (M.g.n+1) i).map fun k=>M.N.getD k 0:=by simp only [chainM,e]
  cases en:M.nx i with
  | none =>
   have e2:nextM M a=-1:=by simp only [nextM,e,en]
   have e3:chainF M.nx (M.g.n+1) i=[i]:=by simp only [chainF,en]
   have e4:chainM M (-1)=[]:=by simp only [chainM,h.no]
   rw [e1,e2,e3,e4,List.map_cons,List.map_nil,a1]
  | some k =>
   obtain⟨hk,hc⟩:=h.nxt.lt h.pass h.ok hi en
   have hcn:=PMok.cnt (M:=M) i
   have e2:nextM M a=M.N.getD k 0:=by simp only [nextM,e,en]
   have e3:chainF M.nx (M.g.n+1) i=i::chainF M.nx M.g.n k:=by simp only [chainF,en]
   have e4:chainM M (M.N.getD k 0)=(chainF M.nx (M.g.n+1) k).map fun k=>M.N.getD k 0:=by simp only [chainM,h.at hk]
   rw [e1,e2,e3,e4,List.map_cons,a1,h.nxt.more h.pass h.ok M.g.n (M.g.n+1) k hk (by omega) (by omega)]
 ·simp only [chainM,e]
  have hn:=h.nxt.once h.pass h.ok _ i hi (PMok.cnt i)
  have hr:∀ x∈chainF M.nx (M.g.n+1) i,x<M.g.n:=fun x hx=>((h.nxt.mem h.pass h.ok _ i hi (PMok.cnt i) x).1 hx).rng h.ok hi
  revert hn hr
  generalize chainF M.nx (M.g.n+1) i=l
  intro hn hr
  induction l with
  | nil=>simp
  | cons x l ih =>
   obtain⟨h1,h2⟩:=List.nodup_cons.1 hn
   simp only [List.map_cons]
   refine List.nodup_cons.2 ⟨fun hm=>?_,ih h2 fun y hy=>hr y (List.mem_cons_of_mem _ hy)⟩
   obtain⟨y,hy,e2⟩:=List.mem_map.1 hm
   have e3:=h.at (hr y (List.mem_cons_of_mem _ hy))
   rw [e2,h.at (hr x (by simp))] at e3
   injection e3 with e3
   subst e3;exact h1 hy
end
end Go.Ru
namespace Go.Ru
structure PMw (M:PM) (ways:Nat→List Int):Prop where
 to:∀ i,i<M.g.n→∀ y∈ways i,∃ j,posL y M.N=some j∧j∈M.g.nx i
 of:∀ i,i<M.g.n→∀ j∈M.g.nx i,∃ y∈ways i,posL y M.N=some j
section
variable {M:PM} (h:PMok M)
include h
theorem ways_law {ways:Nat→List Int} (w:PMw M ways) {i k:Nat} (hi:i<M.g.n) (hk:k<M.g.n):M.P i k=((!M.g.en i&&(ways i).all fun y=>passM M y (M.N.getD k 0)) || i==k):=by
 rw [Bool.eq_iff_iff,h.pass.iff i hi k,pd_fix]
 simp only [Bool.or_eq_true,Bool.and_eq_true,Bool.not_eq_true',List.all_eq_true,beq_iff_eq]
 constructor
 ·rintro (e|⟨h1,h2⟩)
  ·exact .inr e.symm
  ·refine .inl ⟨h1,fun y hy=>?_⟩
   obtain⟨j,hj,hjn⟩:=w.to i hi y hy
   rw [passM_in h hj (h.at hk)]
   exact (h.pass.iff j (h.in_ hj).1 k).2 (h2 j hjn)
 ·rintro (⟨h1,h2⟩|e)
  ·refine .inr ⟨h1,fun j hj=>?_⟩
   obtain⟨y,hy,hyp⟩:=w.of i hi j hj
   have:=h2 y hy
   rw [passM_in h hyp (h.at hk)] at this
   exact (h.pass.iff j (h.in_ hyp).1 k).1 this
  ·exact .inl e.symm
theorem end_next {i:Nat} (hi:i<M.g.n) (he:M.g.en i=true):M.nx i=none:=by
 cases e:M.nx i with
 | none=>rfl
 | some k =>
  obtain⟨h1,h2,_⟩:=(h.nxt.near i hi).some k e
  rcases (pd_fix M.g i k).1 h2 with h3|⟨h3,_⟩
  ·exact absurd h3 h1
  ·rw [he] at h3;cases h3
theorem one_next {i j:Nat} (hi:i<M.g.n) (he:M.g.en i=false) (hw:∀ k,k∈M.g.nx i↔k=j) (hne:j≠i):M.nx i=some j:=by
 have hj:j<M.g.n:=h.ok.rng i hi j ((hw j).2 rfl)
 have hij:PD M.g i j:=(pd_fix M.g i j).2 (.inr ⟨he,fun k hk=>by rw [(hw k).1 hk];exact .refl _ j⟩)
 cases e:M.nx i with
 | none=>exact absurd ((h.nxt.near i hi).none e j hij) hne
 | some k =>
  obtain⟨h1,h2,h3⟩:=(h.nxt.near i hi).some k e
  have hk:k<M.g.n:=h2.rng h.ok hi
  have hkj:=h3 j hij hne
  have hjk:PD M.g j k:=by
   rcases (pd_fix M.g i k).1 h2 with h4|⟨_,h4⟩
   ·exact absurd h4 h1
   ·exact h4 j ((hw j).2 rfl)
  rw [PD.anti (h.ok.live k hk) hkj hjk]
theorem commonF (l:List Int):∀ (m i:Nat),i<M.g.n→cntP M.g M.P i<m→∀ k,PD M.g i k→M.N.getD k 0∈l →
  ∃ c,c<M.g.n∧commonL l ((chainF M.nx m i).map fun k=>M.N.getD k 0)=M.N.getD c 0∧M.N.getD c 0∈l∧PD M.g i c∧PD M.g c k:=by
 intro m
 induction m with
 | zero=>intro i _ hm;omega
 | succ m ih =>
  intro i hi hm k hk hkl
  simp only [chainF,List.map_cons,commonL]
  by_cases e:M.N.getD i 0∈l
  ·rw [if_pos e];exact⟨i,hi,rfl,e,.refl _ i,hk⟩
  ·rw [if_neg e]
   have hne:k≠i:=fun e2=>e (e2▸hkl)
   cases en:M.nx i with
   | none=>exact absurd ((h.nxt.near i hi).none en k hk) hne
   | some j =>
    obtain⟨h1,h2,h3⟩:=(h.nxt.near i hi).some j en
    obtain⟨hj,hc⟩:=h.nxt.lt h.pass h.ok hi en
    obtain⟨c,c1,c2,c3,c4,c5⟩:=ih j hj (by omega) k (h3 k hk hne) hkl
    exact⟨c,c1,c2,c3,h2.trans c4,c5⟩
omit h in
theorem common_no {l r:List Int} (hn:∀ x∈r,x ∉ l):commonL l r=-1:=by
 induction r with
 | nil=>rfl
 | cons a r ih =>
  simp only [commonL,if_neg (hn a (by simp))]
  exact ih fun x hx=>hn x (List.mem_cons_of_mem _ hx)
theorem common1 {a b l:Int} (hl:l∈M.N) (h1:passM M a l=true) (h2:passM M b l=true):passM M (commonM M a b) l=true:=by
 obtain⟨k,ek⟩:=(posL_mem h.nd).2 hl
 obtain⟨hk,k1,l1⟩:=h.in_ ek
 have m1:l∈chainM M a:=by rw [order4 h l1] at h1;exact of_decide_eq_true h1
 have m2:l∈chainM M b:=by rw [order4 h l1] at h2;exact of_decide_eq_true h2
 obtain⟨i,k',e1,e2,e3⟩:=(chain_mem h).1 m1
 rw [ek] at e2
 injection e2 with e2
 subst e2
 obtain⟨hi,_,_⟩:=h.in_ e1
 obtain⟨c,c1,c2,c3,_,c5⟩:=commonF h (chainM M b) (M.g.n+1) i hi (PMok.cnt (M:=M) i) k ((h.pass.iff i hi k).1 e3) (by rw [k1];exact m2)
 have ec:commonM M a b=M.N.getD c 0:=by
  unfold commonM
  rw [show chainM M a=(chainF M.nx (M.g.n+1) i).map fun k=>M.N.getD k 0 by simp only [chainM,e1]]
  exact c2
 rw [ec,passM_in h (h.at c1) ek]
 exact (h.pass.iff c c1 k).2 c5
theorem common2 {a b:Int} (ha:a∈M.N) (hb:b∈M.N):passM M a (commonM M a b)=true∧passM M b (commonM M a b)=true:=by
 by_cases hc:∃ x∈chainM M a,x∈chainM M b
 ·obtain⟨x,x1,x2⟩:=hc
  obtain⟨i,k,e1,e2,e3⟩:=(chain_mem h).1 x1
  obtain⟨hi,_,_⟩:=h.in_ e1
  obtain⟨hk,k1,_⟩:=h.in_ e2
  obtain⟨c,c1,c2,c3,c4,_⟩:=commonF h (chainM M b) (M.g.n+1) i hi (PMok.cnt (M:=M) i) k ((h.pass.iff i hi k).1 e3) (by rw [k1];exact x2)
  have ec:commonM M a b=M.N.getD c 0:=by
   unfold commonM
   rw [show chainM M a=(chainF M.nx (M.g.n+1) i).map fun k=>M.N.getD k 0 by simp only [chainM,e1]]
   exact c2
  obtain⟨_,_,hcn⟩:=h.in_ (h.at c1)
  rw [ec,order4 h hcn,order4 h hcn]
  exact⟨decide_eq_true ((chain_mem h).2 ⟨i,c,e1,h.at c1,(h.pass.iff i hi c).2 c4⟩),decide_eq_true c3⟩
 ·have ec:commonM M a b=-1:=common_no fun x hx hx2=>hc ⟨x,hx,hx2⟩
  rw [ec]
  exact⟨(order1 h ha).2.1,(order1 h hb).2.1⟩
end
end Go.Ru
namespace Go.Ru
def wayN (g:GN):List Int:=g.nx++(if g.ra=-1 then [] else [g.ra])
def endB (g:GN):Bool:=g.k==2 || g.k==3
def ndsP (f:Nat→GN) (p:Int):Nat→List Int
 | 0=>[]
 | i+1=>if (f i).pr=p then ndsP f p i++[(i:Int)] else ndsP f p i
theorem ndsP_mem {f:Nat→GN} {p:Int} {n:Nat} {y:Int}:y∈ndsP f p n↔∃ x:Nat,y=(x:Int)∧x<n∧(f x).pr=p:=by
 induction n with
 | zero=>simp [ndsP]
 | succ n ih =>
  simp only [ndsP]
  split
  ·rename_i h
   rw [List.mem_append,ih,List.mem_singleton]
   constructor
   ·rintro (⟨x,h1,h2,h3⟩|rfl)
    ·exact⟨x,h1,by omega,h3⟩
    ·exact⟨n,rfl,by omega,h⟩
   ·rintro⟨x,h1,h2,h3⟩
    by_cases e:x=n
    ·subst e;exact .inr h1
    ·exact .inl ⟨x,h1,by omega,h3⟩
  ·rename_i h
   rw [ih]
   constructor
   ·rintro⟨x,h1,h2,h3⟩
    exact⟨x,h1,by omega,h3⟩
   ·rintro⟨x,h1,h2,h3⟩
    refine⟨x,h1,?_,h3⟩
    have:x≠n:=fun e=>h (e▸h3)
    omega
theorem ndsP_new {f:Nat→GN} {p:Int} {n:Nat}:(n:Int) ∉ ndsP f p n:=fun h=>by
 obtain⟨x,h1,h2,_⟩:=ndsP_mem.1 h
 omega
theorem ndsP_nodup (f:Nat→GN) (p:Int) (n:Nat):(ndsP f p n).Nodup:=by
 induction n with
 | zero=>exact List.nodup_nil
 | succ n ih =>
  simp only [ndsP]
  split
  ·rw [List.nodup_append]
   refine⟨ih,by simp,fun a ha b hb e=>?_⟩
   rw [List.mem_singleton] at hb
   exact ndsP_new (hb▸e▸ha)
  ·exact ih
theorem ndsP_len (f:Nat→GN) (p:Int) (n:Nat):(ndsP f p n).length≤n:=by
 induction n with
 | zero=>exact Nat.le_refl _
 | succ n ih =>
  simp only [ndsP]
  split
  ·simp;exact ih
  ·omega
theorem posL_snoc {l:List Int} {z:Int} (hz:z ∉ l) (y:Int):posL y (l++[z])=if y=z then some l.length else posL y l:=by
 induction l with
 | nil =>
  simp only [List.nil_append,posL,List.length_nil]
  by_cases e:z=y
  ·rw [if_pos e,if_pos e.symm]
  ·rw [if_neg e,if_neg fun h=>e h.symm];rfl
 | cons a l ih =>
  simp only [List.cons_append,posL]
  rw [ih fun h=>hz (List.mem_cons_of_mem _ h)]
  by_cases e:a=y
  ·rw [if_pos e,if_neg,if_pos e]
   intro h;exact hz (h▸e▸List.mem_cons_self)
  ·rw [if_neg e,if_neg e]
   by_cases e2:y=z
   ·rw [if_pos e2,if_pos e2];simp
   ·rw [if_neg e2,if_neg e2]
def pgN (f:Nat→GN) (N:List Int):PG:=⟨N.length,fun i=>(wayN (f (N.getD i 0).toNat)).map fun y=>(posL y N).getD 0,fun i=>endB (f (N.getD i 0).toNat)⟩
def inP (f:Nat→GN) (N:List Int) (i:Nat):Prop:=∀ y∈wayN (f (N.getD i 0).toNat),(posL y N).isSome=true
theorem pgN_rng {f:Nat→GN} {N:List Int} (h:∀ i,i<N.length→inP f N i):∀ i,i<(pgN f N).n→∀ j∈(pgN f N).nx i,j<(pgN f N).n:=by
 intro i hi j hj
 obtain⟨y,hy,rfl⟩:=List.mem_map.1 hj
 have:=h i hi y hy
 cases hp:posL y N with
 | none=>rw [hp] at this;cases this
 | some k=>exact (posL_some hp).1
def bkN (g:PG) (m j:Nat):List Nat:=(List.range m).flatMap fun i=>(g.nx i).filterMap fun k=>if k=j then some i else none
def bkT (g:PG) (i t j:Nat):List Nat:=bkN g i j++((g.nx i).take t).filterMap fun k=>if k=j then some i else none
theorem bkT_zero (g:PG) (i j:Nat):bkT g i 0 j=bkN g i j:=by simp [bkT]
theorem bkT_all {g:PG} {i t:Nat} (h:(g.nx i).length≤t) (j:Nat):bkT g i t j=bkN g (i+1) j:=by
 unfold bkT bkN
 rw [List.take_of_length_le h,List.range_succ,List.flatMap_append]
 simp
theorem bkT_succ {g:PG} {i t:Nat} (h:t<(g.nx i).length) (j:Nat):bkT g i (t+1) j=if j=(g.nx i).getD t 0 then bkT g i t j++[i] else bkT g i t j:=by
 unfold bkT
 rw [List.take_add_one,List.getElem?_eq_getElem h,List.filterMap_append,← List.append_assoc,List.getD_eq_getElem?_getD,List.getElem?_eq_getElem h]
 simp only [Option.toList_some,Option.getD_some]
 by_cases e:(g.nx i)[t]=j
 ·rw [if_pos e.symm];simp [e]
 ·rw [if_neg fun h=>e h.symm];simp [e]
theorem bkN_back (g:PG) (j:Nat):bkN g g.n j=backL g j:=rfl
theorem bk_len (g:PG) (m c:Nat) (h:∀ i,i<m→(g.nx i).length≤c) (j:Nat):(bkN g m j).length≤m*c:=by
 induction m with
 | zero=>simp [bkN]
 | succ m ih =>
  rw [← bkT_all (Nat.le_refl _) j]
  unfold bkT
  rw [List.length_append,Nat.succ_mul]
  have h1:=ih fun i hi=>h i (by omega)
  have h2:=List.length_filterMap_le (fun k=>if k=j then some m else none) ((g.nx m).take (g.nx m).length)
  have h3:=h m (by omega)
  rw [List.take_length] at h2 ⊢
  omega
theorem bkT_len (g:PG) (i t c:Nat) (h:∀ k,k≤i→(g.nx k).length≤c) (j:Nat):(bkT g i t j).length≤(i+1)*c:=by
 unfold bkT
 rw [List.length_append,Nat.succ_mul]
 have h1:=bk_len g i c (fun k hk=>h k (by omega)) j
 have h2:=List.length_filterMap_le (fun k=>if k=j then some i else none) ((g.nx i).take t)
 have h3:=h i (Nat.le_refl _)
 rw [List.length_take] at h2
 omega
def endsP (g:PG):Nat→List Nat
 | 0=>[]
 | i+1=>if g.en i=true then endsP g i++[i] else endsP g i
theorem endsP_mem {g:PG} {m i:Nat}:i∈endsP g m↔i<m∧g.en i=true:=by
 induction m with
 | zero=>simp [endsP]
 | succ m ih =>
  simp only [endsP]
  split
  ·rename_i h
   rw [List.mem_append,ih,List.mem_singleton]
   constructor
   ·rintro (⟨h1,h2⟩|rfl)
    ·exact⟨by omega,h2⟩
    ·exact⟨by omega,h⟩
   ·rintro⟨h1,h2⟩
    by_cases e:i=m
    ·exact .inr e
    ·exact .inl ⟨by omega,h2⟩
  ·rename_i h
   rw [ih]
   constructor
   ·rintro⟨h1,h2⟩;exact⟨by omega,h2⟩
   ·rintro⟨h1,h2⟩
    refine⟨?_,h2⟩
    have:i≠m:=fun e=>h (e▸h2)
    omega
theorem endsP_len (g:PG) (m:Nat):(endsP g m).length≤m:=by
 induction m with
 | zero=>exact Nat.le_refl _
 | succ m ih =>
  simp only [endsP]
  split
  ·simp;exact ih
  ·omega
def sT (g:PG) (P:Nat→Nat→Bool) (i t k:Nat):Bool:=!g.en i&&(decide (k<g.n)&&((g.nx i).take t).all fun j=>P j k)
theorem sT_zero (g:PG) (P:Nat→Nat→Bool) (i k:Nat):sT g P i 0 k=(!g.en i&&decide (k<g.n)):=by simp [sT]
theorem sT_succ {g:PG} {P:Nat→Nat→Bool} {i t:Nat} (h:t<(g.nx i).length) (k:Nat):sT g P i (t+1) k=(sT g P i t k&&P ((g.nx i).getD t 0) k):=by
 unfold sT
 rw [List.take_add_one,List.getElem?_eq_getElem h,List.all_append,List.getD_eq_getElem?_getD,List.getElem?_eq_getElem h]
 simp [Bool.and_assoc]
theorem sT_all {g:PG} {P:Nat→Nat→Bool} {i t:Nat} (h:(g.nx i).length≤t) (k:Nat):(sT g P i t k || decide (k=i))=FP g P i k:=by
 unfold sT FP
 rw [List.take_of_length_le h,Bool.or_comm]
 rfl
structure BestOk (c:Nat→Nat) (l:List Nat) (b:Option Nat×Nat):Prop where
 all:∀ m∈l,c m≤b.2
 fst:∀ k,b.1=some k→k∈l∧c k=b.2
 none:b.1=none→b.2=0
theorem best0 (c:Nat→Nat):BestOk c [] (none,0):=⟨by simp,fun k h=>by simp at h,fun _=>rfl⟩
theorem BestOk.snoc {c:Nat→Nat} {l:List Nat} {b:Option Nat×Nat} (h:BestOk c l b) (k:Nat):BestOk c (l++[k]) (if c k>b.2 then (some k,c k) else b):=by
 split
 ·rename_i hk
  refine⟨fun m hm=>?_,fun k' e=>?_,fun e=>by simp at e⟩
  ·rcases List.mem_append.1 hm with hm|hm
   ·have:=h.all m hm;simp only;omega
   ·rw [List.mem_singleton.1 hm];exact Nat.le_refl _
  ·injection e with e;subst e;exact⟨by simp,rfl⟩
 ·rename_i hk
  refine⟨fun m hm=>?_,fun k' e=>⟨List.mem_append_left _ (h.fst k' e).1,(h.fst k' e).2⟩,h.none⟩
  rcases List.mem_append.1 hm with hm|hm
  ·exact h.all m hm
  ·rw [List.mem_singleton.1 hm];omega
theorem near_best {g:PG} {P:Nat→Nat→Bool} (h:Pass g P) (ok:PGok g) {i:Nat} (hi:i<g.n) {b:Option Nat×Nat} {l:List Nat} (hl:∀ k,k∈l↔k≠i∧P i k=true) (hb:BestOk (cntP g P) l b):Near g i b.1:=by
 cases e:b.1 with
 | none =>
  refine⟨fun _ k hk=>?_,fun k' h=>by cases h⟩
  by_cases hne:k=i
  ·exact hne
  have h0:=hb.none e
  have h1:=hb.all k ((hl k).2 ⟨hne,(h.iff i hi k).2 hk⟩)
  have hkn:=PD.rng ok hi hk
  have:k∈(List.range g.n).filter (P k):=List.mem_filter.2 ⟨List.mem_range.2 hkn,(h.iff k hkn k).2 (PD.refl g k)⟩
  have:=List.length_pos_of_mem this
  unfold cntP at h1
  omega
 | some k =>
  obtain⟨h1,h2⟩:=hb.fst k e
  obtain⟨h3,h4⟩:=(hl k).1 h1
  exact h.nearest ok hi ((h.iff i hi k).1 h4) h3 fun m hm hne=>by
   rw [h2]
   exact hb.all m ((hl m).2 ⟨hne,(h.iff i hi m).2 hm⟩)
end Go.Ru
namespace Go.Ru
def cntB (p:Nat→Bool):Nat→Nat
 | 0=>0
 | n+1=>cntB p n+(match p n with|true=>1|false=>0)
def stP' (ns:List Nd) (i:Nat):Bool:=stB (nd ns i).k
structure Steps (ns:List Nd) (num:Int) (m i:Nat) (s s':SS):Prop where
 n:s'.n+cntB (stP' ns) i=s.n+cntB (stP' ns) (i+m)
 le:s.n≤s'.n
 old:∀ x,x<s.n→s'.f x=s.f x
 ofo:∀ j:Int,(j<(i:Int)∨((i+m:Nat):Int)≤j∨stB (nd ns j.toNat).k=false)→s'.of j=s.of j
 new:∀ j:Nat,i≤j→j<i+m→stB (nd ns j).k=true→∃ x,s'.of (j:Int)=some x∧s.n≤x∧x<s'.n∧s'.f x=⟨4,(j:Int),num,[],-1⟩
 back:∀ x,s.n≤x→x<s'.n→∃ j:Nat,i≤j∧j<i+m∧stB (nd ns j).k=true∧s'.of (j:Int)=some x
theorem steps_ok (ns:List Nd) (num:Int):∀ (m i:Nat) (s:SS),Steps ns num m i s (stepsS ns num m i s):=by
 intro m
 induction m with
 | zero=>intro i s;exact⟨rfl,Nat.le_refl _,fun _ _=>rfl,fun _ _=>rfl,fun j h1 h2=>by omega,fun x h1 h2=>by simp only [stepsS] at h2;omega⟩
 | succ m ih =>
  intro i s
  simp only [stepsS]
  cases hs:stB (nd ns i).k with
  | false =>
   have h:=ih (i+1) s
   have hc:cntB (stP' ns) (i+1)=cntB (stP' ns) i:=by simp [cntB,stP',hs]
   refine⟨?_,h.le,h.old,fun j hj=>h.ofo j ?_,fun j h1 h2 h3=>?_,fun x h1 h2=>?_⟩
   ·have:=h.n;rw [hc,show i+1+m=i+(m+1) by omega] at this;exact this
   ·rcases hj with hj|hj|hj
    ·exact .inl (by omega)
    ·exact .inr (.inl (by omega))
    ·exact .inr (.inr hj)
   ·by_cases e:j=i
    ·subst e;rw [hs] at h3;cases h3
    ·exact h.new j (by omega) (by omega) h3
   ·obtain⟨j,a,b,c,d⟩:=h.back x h1 h2
    exact⟨j,by omega,by omega,c,d⟩
  | true =>
   simp only
   have h:=ih (i+1) ⟨s.n+1,addG s.n s.f ⟨4,(i:Int),num,[],-1⟩,insO s.of i s.n⟩
   have hc:cntB (stP' ns) (i+1)=cntB (stP' ns) i+1:=by simp [cntB,stP',hs]
   have hle:=h.le
   simp only at hle
   refine⟨?_,by omega,fun x hx=>?_,fun j hj=>?_,fun j h1 h2 h3=>?_,fun x h1 h2=>?_⟩
   ·have:=h.n;simp only at this;rw [hc,show i+1+m=i+(m+1) by omega] at this;omega
   ·rw [h.old x (by simp only;omega)]
    simp only [addG,if_neg (show x≠s.n by omega)]
   ·rw [h.ofo j (by
     rcases hj with hj|hj|hj
     ·exact .inl (by omega)
     ·exact .inr (.inl (by omega))
     ·exact .inr (.inr hj))]
    have:j≠(i:Int):=fun e=>by
     rcases hj with hj|hj|hj
     ·omega
     ·omega
     ·subst e;rw [Int.toNat_natCast,hs] at hj;cases hj
    simp only [insO,if_neg this]
   ·by_cases e:j=i
    ·subst e
     refine⟨s.n,?_,Nat.le_refl _,by omega,?_⟩
     ·rw [h.ofo (j:Int) (.inl (by omega))];simp [insO]
     ·rw [h.old s.n (by simp only;omega)];simp [addG]
    ·obtain⟨x,a,b,c,d⟩:=h.new j (by omega) (by omega) h3
     exact⟨x,a,by simp only at b;omega,c,d⟩
   ·by_cases e:x=s.n
    ·subst e
     refine⟨i,Nat.le_refl _,by omega,hs,?_⟩
     rw [h.ofo (i:Int) (.inl (by omega))];simp [insO]
    ·obtain⟨j,a,b,c,d⟩:=h.back x (by simp only;omega) h2
     exact⟨j,by omega,by omega,c,d⟩
theorem steps_inj {ns:List Nd} {num:Int} {m i:Nat} {s s':SS} (h:Steps ns num m i s s') {j j' x:Nat} (h1:i≤j) (h2:j<i+m) (h3:stB (nd ns j).k=true) (h1':i≤j') (h2':j'<i+m) (h3':stB (nd ns j').k=true)
  (e:s'.of (j:Int)=some x) (e':s'.of (j':Int)=some x):j=j':=by
 obtain⟨y,a,b,c,d⟩:=h.new j h1 h2 h3
 obtain⟨y',a',b',c',d'⟩:=h.new j' h1' h2' h3'
 rw [e] at a;rw [e'] at a'
 injection a with a
 injection a' with a'
 subst a a'
 rw [d] at d'
 have:(j:Int)=(j':Int):=congrArg GN.pl d'
 omega
section
variable {ns:List Nd} {root:Int} (rt:RightT ns root)
include rt
theorem RightT.ownSub:∀ (j:Nat),j<ns.length→(nd ns j).k≠1→∀ x:Nat,lowS ns j<x→x≤j→own ns root x=own ns root j:=by
 intro j
 induction j using Nat.strongRecOn with
 | _ j ih =>
  intro hj hk x h1 h2
  by_cases e:x=j
  ·rw [e]
  ·obtain⟨q,hq,g0,g1,g2⟩:=rt.tile j hj (x:Int) h1 (by omega)
   obtain⟨q0,q1,_⟩:=rt.kid j hj q hq
   have hkd:=rt.kidk hj hq
   simp only at hkd
   have hx:=@exB_iff (nd ns q.toNat).k
   have hy:=@stB_iff (nd ns q.toNat).k
   have hne:(nd ns q.toNat).k≠1∧(nd ns q.toNat).k≠3:=by
    rcases hkd with h|h|h|h|h|h|h
    ·omega
    ·omega
    ·have:=hy.1 h.2;omega
    ·have:=hx.1 h.2.2;omega
    ·omega
    ·omega
    ·omega
   rw [ih q.toNat (by omega) (by omega) hne.1 x g1 (by omega),own_kid rt.toStd hj hq hne.2]
theorem RightT.ownProc {j:Nat} (hj:j<ns.length) (hk:(nd ns j).k=3):own ns root j=(j:Int):=by
 rw [own_eq rt.toStd hj,if_pos hk]
end
def ToN (s:BSt) (c:Nat) (y:Int):Prop:=0≤y∧y<(s.n:Int)∧(s.f y.toNat).pr=(c:Int)∧(s.f y.toNat).k≠1
structure BInv (ns:List Nd) (root:Int) (s:BSt) (e:Nat→Nat):Prop where
 fst:(s.fst:Int)≤root
 pr:∀ c,c<s.ps.length→∃ q:Nat,s.ps[c]?=some (q:Int)∧q<s.fst∧(nd ns q).k=3∧e c+3≤s.n ∧
  (∃ b,s.f (e c)=⟨1,(q:Int),(c:Int),[b],-1⟩∧ToN s c b)∧s.f (e c+1)=⟨2,(q:Int),(c:Int),[],-1⟩∧s.f (e c+2)=⟨3,(q:Int),(c:Int),[],-1⟩
 st:∀ i,i<s.fst→stB (nd ns i).k=true→∃ x c,s.of (i:Int)=some x∧x<s.n∧c<s.ps.length∧s.ps[c]?=some (own ns root i)∧LaidN ns (ToN s c) i ⟨4,(i:Int),(c:Int),[],-1⟩ (s.f x)
 back:∀ x,x<s.n→(∃ c,c<s.ps.length∧(x=e c∨x=e c+1∨x=e c+2))∨∃ i,i<s.fst∧stB (nd ns i).k=true∧s.of (i:Int)=some x
 num:s.n=3*s.ps.length+cntB (stP' ns) s.fst
 way:∀ D:Int→Prop,(∀ c,c<s.ps.length→D ((e c+1:Nat):Int)∧D ((e c+2:Nat):Int))→(∀ x,x<s.n→(∃ y,succG (s.f x) y∧D y)→D (x:Int))→∀ x,x<s.n→D (x:Int)
 dom:∀ j x,s.of j=some x→x<s.n
theorem ToN.keep {s s':BSt} {c:Nat} {y:Int} (h:ToN s c y) (hn:s.n≤s'.n) (hf:∀ x,x<s.n→s'.f x=s.f x):ToN s' c y:=by
 obtain⟨h1,h2,h3,h4⟩:=h
 refine⟨h1,by omega,?_,?_⟩
 ·rw [hf y.toNat (by omega)];exact h3
 ·rw [hf y.toNat (by omega)];exact h4
theorem LaidN.mono {ns:List Nd} {T T':Int→Prop} {i:Nat} {g g':GN} (h:LaidN ns T i g g') (hT:∀ y,T y→T' y):LaidN ns T' i g g' :=
 ⟨h.k,h.pl,h.pr,fun x hx=>hT x (h.nx x hx),h.ra.imp id (hT _),h.ra16,fun a b=>hT _ (h.rise a b),h.calm,h.two,h.nil,h.lt3⟩
theorem binv0 {ns:List Nd} {root:Int} (rt:RightT ns root):BInv ns root bst0 (fun _=>0):=by
 have:=rt.pos
 have:=rt.rt
 exact⟨by simp only [bst0];omega,fun c hc=>by simp [bst0] at hc,fun i hi=>by simp [bst0] at hi,fun x hx=>by simp [bst0] at hx,rfl,fun D _ _ x hx=>by simp [bst0] at hx,fun j x h=>by simp [bst0] at h⟩
theorem cntB_same {p:Nat→Bool} {i:Nat}:∀ (m:Nat),(∀ j,i≤j→j<i+m→p j=false)→cntB p (i+m)=cntB p i:=by
 intro m
 induction m with
 | zero=>intro _;rfl
 | succ m ih =>
  intro h
  have e:cntB p (i+(m+1))=cntB p (i+m)+(match p (i+m) with|true=>1|false=>0):=rfl
  rw [e,h (i+m) (by omega) (by omega),ih fun j h1 h2=>h j h1 (by omega)]
  rfl
theorem BInv.skip {ns:List Nd} {root:Int} {s:BSt} {e:Nat→Nat} (h:BInv ns root s e) {q:Nat} (hf:s.fst≤q) (hq:(q:Int)<root) (hno:∀ j,s.fst≤j→j≤q→stB (nd ns j).k=false):BInv ns root ⟨s.n,s.f,s.of,s.ps,q+1⟩ e:=by
 refine⟨by simp only;omega,fun c hc=>?_,fun i hi hs=>?_,fun x hx=>?_,?_,h.way,h.dom⟩
 ·obtain⟨q',a1,a2,a⟩:=h.pr c hc
  exact⟨q',a1,by simp only;omega,a⟩
 ·by_cases e:i<s.fst
  ·exact h.st i e hs
  ·rw [hno i (by omega) (by simp only at hi;omega)] at hs;cases hs
 ·rcases h.back x hx with h|⟨i,h1,h2⟩
  ·exact .inl h
  ·exact .inr ⟨i,by simp only;omega,h2⟩
 ·have:=cntB_same (p:=stP' ns) (i:=s.fst) (q+1 - s.fst) (fun j h1 h2=>hno j h1 (by omega))
  rw [show s.fst+(q+1 - s.fst)=q+1 by omega] at this
  simp only
  rw [this];exact h.num
theorem BInv.lay {ns:List Nd} {root:Int} (rt:RightT ns root) {s:BSt} {e:Nat→Nat} (h:BInv ns root s e) {q:Nat} (hf:s.fst≤q) (hq:(q:Int)<root) (hk:(nd ns q).k=3)
  (hin:∀ j:Nat,s.fst≤j→j≤q→lowS ns q<(j:Int)) (hout:(s.fst:Int)≤lowS ns q+1):∃ e',BInv ns root (layS ns s q) e':=by
 have hrt:=rt.rt
 have hlen:=rt.len
 have hql:q<ns.length:=by omega
 obtain⟨l,b,hkids,hkb,hpars⟩:=rt.body hql hk
 have hbm:b∈(nd ns q).kids:=by rw [hkids];simp
 obtain⟨b0,b1,b2⟩:=rt.kid q hql b hbm
 have hbody:(nd ns q).kids.getD ((nd ns q).kids.length - 1) 0=b:=by rw [hkids];simp
 have hstb:∀ j,s.fst≤j→j<q+1→stB (nd ns j).k=true→Inn ns b.toNat j:=fun j h1 h2 h3=>by
  have:Inn ns q j:=⟨hin j h1 (by omega),by omega,h3⟩
  rcases (rt.inn hql).1 this with ⟨rfl,h4⟩|⟨x,hx,hj⟩
  ·have:=stB_iff.1 h4;omega
  ·rw [hkids] at hx
   rcases List.mem_append.1 hx with hx|hx
   ·obtain⟨x0,x1,_⟩:=rt.kid q hql x (by rw [hkids];simp [hx])
    exact (rt.noInn (by omega) (by have:=hpars x hx;omega) hj).elim
   ·simp only [List.mem_cons,List.not_mem_nil,or_false] at hx;subst hx;exact hj
 have hbin:∀ j,Inn ns b.toNat j→s.fst≤j∧j<q∧stB (nd ns j).k=true:=fun j ⟨h1,h2,h3⟩=>⟨by omega,by omega,h3⟩
 obtain⟨s1,hs1⟩:∃ s1,stepsS ns (s.ps.length:Int) (q - s.fst) s.fst ⟨s.n+3,endsS s.n s.f (q:Int) (s.ps.length:Int),s.of⟩=s1:=⟨_,rfl⟩
 have S:=steps_ok ns (s.ps.length:Int) (q - s.fst) s.fst ⟨s.n+3,endsS s.n s.f (q:Int) (s.ps.length:Int),s.of⟩
 rw [hs1] at S
 have hfq:s.fst+(q - s.fst)=q:=by omega
 have hat:∀ j,Inn ns b.toNat j→s1.of (j:Int)=some (atO s1.of j)∧s.n+3≤atO s1.of j∧atO s1.of j<s1.n∧s1.f (atO s1.of j)=⟨4,(j:Int),(s.ps.length:Int),[],-1⟩:=fun j hj=>by
  obtain⟨h1,h2,h3⟩:=hbin j hj
  obtain⟨x,a1,a2,a3,a4⟩:=S.new j h1 (by omega) h3
  have:atO s1.of j=x:=by simp [atO,a1]
  rw [this];exact⟨a1,a2,a3,a4⟩
 have hinj:∀ j j',Inn ns b.toNat j→Inn ns b.toNat j'→atO s1.of j=atO s1.of j'→j=j':=fun j j' hj hj' he=>by
  obtain⟨h1,h2,h3⟩:=hbin j hj
  obtain⟨h1',h2',h3'⟩:=hbin j' hj'
  exact steps_inj S h1 (by omega) h3 h1' (by omega) h3' (hat j hj).1 (by rw [he];exact (hat j' hj').1)
 have L:=block_laid rt (of:=s1.of) (ex:=(s.n:Int)+1) (m:=4000) (stmt_laid rt 4000) (b:=b.toNat) (by omega) (by omega) hkb hinj ((s.n:Int)+2) (by omega) ((s.n:Int)+1) s1.f
 obtain⟨bg,G,hr⟩:∃ bg G,flBlock ns s1.of ((s.n:Int)+1) 4000 b.toNat ((s.n:Int)+1) ((s.n:Int)+2) s1.f=(bg,G):=⟨_,_,rfl⟩
 rw [hr] at L
 have hlay:layS ns s q=⟨s1.n,setG G s.n [bg] (G s.n).ra,s1.of,s.ps++[(q:Int)],q+1⟩:=by
  simp only [layS,hs1,hbody,hr]
 rw [hlay]
 have hle:=S.le
 simp only at hle
 have hGlow:∀ x,x<s.n+3→G x=endsS s.n s.f (q:Int) (s.ps.length:Int) x:=fun x hx=>by
  have:=L.frame x fun j hj e=>by have:=(hat j hj).2.1;omega
  simp only at this
  rw [this,S.old x (by simp only;omega)]
 have e0:G s.n=⟨1,(q:Int),(s.ps.length:Int),[],-1⟩:=by
  rw [hGlow _ (by omega)];simp [endsS,addG]
 have e1:G (s.n+1)=⟨2,(q:Int),(s.ps.length:Int),[],-1⟩:=by
  rw [hGlow _ (by omega)];simp [endsS,addG]
 have e2:G (s.n+2)=⟨3,(q:Int),(s.ps.length:Int),[],-1⟩:=by
  rw [hGlow _ (by omega)];simp [endsS,addG]
 have eO:∀ x,x<s.n→G x=s.f x:=fun x hx=>by
  rw [hGlow _ (by omega)]
  simp only [endsS,addG,if_neg (show x≠s.n+2 by omega),if_neg (show x≠s.n+1 by omega),if_neg (show x≠s.n by omega)]
 obtain⟨s',hs'⟩:∃ s':BSt,(⟨s1.n,setG G s.n [bg] (G s.n).ra,s1.of,s.ps++[(q:Int)],q+1⟩:BSt)=s':=⟨_,rfl⟩
 have f0:s'.f s.n=⟨1,(q:Int),(s.ps.length:Int),[bg],-1⟩:=by
  rw [← hs'];simp only [setG,if_pos,e0]
 have fN:∀ x,x≠s.n→s'.f x=G x:=fun x hx=>by rw [← hs'];simp only [setG,if_neg hx]
 have fO:∀ x,x<s.n→s'.f x=s.f x:=fun x hx=>by rw [fN x (by omega),eO x hx]
 have hn':s'.n=s1.n:=by rw [← hs']
 have hof':s'.of=s1.of:=by rw [← hs']
 have hps':s'.ps=s.ps++[(q:Int)]:=by rw [← hs']
 have hpl:s'.ps.length=s.ps.length+1:=by rw [hps'];simp
 have hfst':s'.fst=q+1:=by rw [← hs']
 have gets:∀ c,c<s.ps.length→s'.ps[c]?=s.ps[c]?:=fun c hc=>by rw [hps',List.getElem?_append_left hc]
 have getl:s'.ps[s.ps.length]?=some (q:Int):=by rw [hps'];simp
 have Lt:=L.laid (fun _=>True) trivial trivial trivial (fun _ _=>trivial)
 have hfat:∀ j,Inn ns b.toNat j→s'.f (atO s1.of j)=G (atO s1.of j):=fun j hj=>fN _ (by have:=(hat j hj).2.1;omega)
 have hTat:∀ j,Inn ns b.toNat j→ToN s' s.ps.length (atO s1.of j:Nat):=fun j hj=>by
  have h1:=Lt.2 j hj
  have h2:=hat j hj
  refine⟨by omega,by omega,?_,?_⟩
  ·rw [Int.toNat_natCast,hfat j hj]
   have:=h1.pr
   simp only at this
   rw [this,h2.2.2.2]
  ·rw [Int.toNat_natCast,hfat j hj]
   have:=h1.k
   simp only at this
   rw [this,h2.2.2.2]
   exact (by decide:(4:Int)≠1)
 have hT1:ToN s' s.ps.length ((s.n:Int)+1):=by
  refine⟨by omega,by omega,?_,?_⟩
  ·rw [show ((s.n:Int)+1).toNat=s.n+1 by omega,fN _ (by omega),e1]
  ·rw [show ((s.n:Int)+1).toNat=s.n+1 by omega,fN _ (by omega),e1];exact (by decide:(2:Int)≠1)
 have hT2:ToN s' s.ps.length ((s.n:Int)+2):=by
  refine⟨by omega,by omega,?_,?_⟩
  ·rw [show ((s.n:Int)+2).toNat=s.n+2 by omega,fN _ (by omega),e2]
  ·rw [show ((s.n:Int)+2).toNat=s.n+2 by omega,fN _ (by omega),e2];exact (by decide:(3:Int)≠1)
 have LT:=L.laid (ToN s' s.ps.length) hT1 hT2 hT1 hTat
 have hown:∀ j,Inn ns b.toNat j→own ns root j=(q:Int):=fun j hj=>by
  obtain⟨h1,h2,h3⟩:=hbin j hj
  rw [rt.ownSub q hql (by omega) j (hin j h1 (by omega)) (by omega),rt.ownProc hql hk]
 refine⟨fun c=>if c=s.ps.length then s.n else e c,?_⟩
 rw [hs']
 refine⟨by omega,fun c hc=>?_,fun i hi hs=>?_,fun x hx=>?_,?_,fun D h1 h2=>?_,fun j x hj=>?_⟩
 ·by_cases ec:c=s.ps.length
  ·subst ec
   refine⟨q,getl,by omega,hk,by simp only [if_pos];omega,⟨bg,by simp only [if_pos];exact f0,LT.1⟩,?_,?_⟩
   ·simp only [if_pos];rw [fN _ (by omega),e1]
   ·simp only [if_pos];rw [fN _ (by omega),e2]
  ·obtain⟨q',a1,a2,a3,a4,⟨b',a5,a6⟩,a7,a8⟩:=h.pr c (by omega)
   simp only [if_neg ec]
   refine⟨q',by rw [gets c (by omega)];exact a1,by omega,a3,by omega,⟨b',by rw [fO _ (by omega)];exact a5,a6.keep (by omega) fO⟩,?_,?_⟩
   ·rw [fO _ (by omega)];exact a7
   ·rw [fO _ (by omega)];exact a8
 ·by_cases ei:i<s.fst
  ·obtain⟨x,c,a1,a2,a3,a4,a5⟩:=h.st i ei hs
   refine⟨x,c,?_,by omega,by omega,by rw [gets c a3];exact a4,?_⟩
   ·rw [hof',S.ofo (i:Int) (.inl (by omega))];exact a1
   ·rw [fO x a2];exact a5.mono fun y hy=>hy.keep (by omega) fO
  ·have hj:=hstb i (by omega) (by omega) hs
   have h2:=hat i hj
   refine⟨atO s1.of i,s.ps.length,by rw [hof'];exact h2.1,by omega,by omega,by rw [getl,hown i hj],?_⟩
   rw [hfat i hj]
   have:=LT.2 i hj
   rw [h2.2.2.2] at this
   exact this
 ·by_cases ex:x<s.n
  ·rcases h.back x ex with ⟨c,hc,hx⟩|⟨i,h1,h2,h3⟩
   ·refine .inl ⟨c,by omega,?_⟩
    simp only [if_neg (show c≠s.ps.length by omega)]
    exact hx
   ·exact .inr ⟨i,by omega,h2,by rw [hof',S.ofo (i:Int) (.inl (by omega))];exact h3⟩
  ·by_cases e3:x<s.n+3
   ·exact .inl ⟨s.ps.length,by omega,by simp only [if_pos];omega⟩
   ·obtain⟨j,a1,a2,a3,a4⟩:=S.back x (by simp only;omega) (by omega)
    exact .inr ⟨j,by omega,a3,by rw [hof'];exact a4⟩
 ·have:=S.n
  rw [hfq] at this
  simp only at this
  have hc:cntB (stP' ns) (q+1)=cntB (stP' ns) q:=by
   have:stP' ns q=false:=by
    simp only [stP']
    rw [hk];rfl
   simp [cntB,this]
  rw [hn',hpl,hfst',hc]
  have:=h.num
  omega
 ·
  have hold:∀ x,x<s.n→D (x:Int):=h.way D (fun c hc=>by
    have:=h1 c (by omega)
    simpa only [if_neg (show c≠s.ps.length by omega)] using this) fun x hx hy=>h2 x (by omega) (by rw [fO x hx];exact hy)
  have hnew:=h1 s.ps.length (by omega)
  simp only [if_pos] at hnew
  have d1:D ((s.n:Int)+1):=hnew.1
  have d2:D ((s.n:Int)+2):=hnew.2
  obtain⟨w1,w2⟩:=L.way s'.f D d1 d2 d1 (fun j hj=>hfat j hj) fun j hj hy=>h2 _ (by have:=hat j hj;omega) hy
  intro x hx
  by_cases ex:x<s.n
  ·exact hold x ex
  ·by_cases x0:x=s.n
   ·subst x0
    exact h2 s.n hx ⟨bg,.inl (by rw [f0];simp),w1⟩
   by_cases x1:x=s.n+1
   ·subst x1;exact d1
   by_cases x2:x=s.n+2
   ·subst x2;exact d2
   obtain⟨j,a1,a2,a3,a4⟩:=S.back x (by simp only;omega) (by omega)
   have hj:=hstb j a1 (by omega) a3
   have:atO s1.of j=x:=by simp [atO,a4]
   rw [← this]
   exact w2 j hj
 ·rw [hof'] at hj
  by_cases ej:j<(s.fst:Int)∨((s.fst+(q - s.fst):Nat):Int)≤j∨stB (nd ns j.toNat).k=false
  ·rw [S.ofo j ej] at hj
   have:=h.dom j x hj
   omega
  ·simp only [not_or] at ej
   obtain⟨i,rfl⟩:∃ i:Nat,j=(i:Int):=⟨j.toNat,by omega⟩
   obtain⟨y,a1,a2,a3,_⟩:=S.new i (by omega) (by omega) (by simpa using ej.2.2)
   rw [hj] at a1
   injection a1 with a1
   omega
theorem lay_fst (ns:List Nd) (s:BSt) (q:Nat):(layS ns s q).fst=q+1:=by
 simp only [layS]
structure StepH (ns:List Nd) (root:Int) (s:BSt) (q:Nat):Prop where
 lo:s.fst≤q
 lt:(q:Int)<root
 hin:∀ j:Nat,s.fst≤j→j≤q→lowS ns q<(j:Int)
 hout:(s.fst:Int)≤lowS ns q+1
 k23:(nd ns q).k=2∨(nd ns q).k=3
theorem step_h {ns:List Nd} {root:Int} (rt:RightT ns root) {d l:List Int} {q:Int} (hd:(nd ns root.toNat).kids=d++q::l) {s:BSt} (h1:∀ k∈d,k<(s.fst:Int)) (h2:∀ k∈q::l,(s.fst:Int)≤lowS ns k.toNat+1) :
  StepH ns root s q.toNat∧0≤q∧∀ k∈l,((q.toNat+1:Nat):Int)≤lowS ns k.toNat+1:=by
 have hrt:=rt.rt
 have hpos:=rt.pos
 have hrl:root.toNat<ns.length:=by omega
 have hqm:q∈(nd ns root.toNat).kids:=by rw [hd];simp
 obtain⟨q0,q1,q2⟩:=rt.kid root.toNat hrl q hqm
 have hself:=rt.self q.toNat (by omega)
 have hlow2:=h2 q (by simp)
 have hrise:=rev_pair (by have:=rt.ok;simp only [rightS,Bool.and_eq_true] at this;exact this.1.1.1) hrl
 rw [List.pairwise_reverse,hd] at hrise
 have hlt:∀ k∈l,q<k:=by
  have:=(List.pairwise_append.1 hrise).2.1
  exact (List.pairwise_cons.1 this).1
 have hkd:=rt.kidk hrl hqm
 simp only [rt.top] at hkd
 refine⟨⟨by omega,by omega,fun j j1 j2=>?_,hlow2,by omega⟩,q0,fun k hk=>?_⟩
 ·by_cases ej:j=q.toNat
  ·subst ej;omega
  have hlow:=rt.low
  obtain⟨k,hk,g0,g1,g2⟩:=rt.tile root.toNat hrl (j:Int) (by rw [show root.toNat=ns.length - 1 by omega,hlow];omega) (by omega)
  have hk':=hk
  rw [hd] at hk'
  rcases List.mem_append.1 hk' with hk'|hk'
  ·have:=h1 k hk';omega
  ·rcases List.mem_cons.1 hk' with rfl|hk'
   ·exact g1
   ·have:=rt.apart root.toNat hrl q hqm k hk (hlt k hk')
    omega
 ·have:=rt.apart root.toNat hrl q hqm k (by rw [hd];simp [hk]) (hlt k hk)
  omega
def stepB (ns:List Nd) (s:BSt) (q:Nat):BSt:=match (nd ns q).k==3 with
 | true=>layS ns s q
 | false=>⟨s.n,s.f,s.of,s.ps,q+1⟩
theorem stepB_fst (ns:List Nd) (s:BSt) (q:Nat):(stepB ns s q).fst=q+1:=by
 unfold stepB
 split
 ·exact lay_fst ns s q
 ·rfl
theorem BInv.step {ns:List Nd} {root:Int} (rt:RightT ns root) {s:BSt} (h:∃ e,BInv ns root s e) {q:Nat} (hq:StepH ns root s q):∃ e,BInv ns root (stepB ns s q) e:=by
 obtain⟨e,h⟩:=h
 have hrt:=rt.rt
 unfold stepB
 split
 ·rename_i k3
  exact h.lay rt hq.lo hq.lt (by simpa using k3) hq.hin hq.hout
 ·rename_i k3
  have k3:(nd ns q).k≠3:=by simpa using k3
  have hk:=hq.k23
  have hlt:=hq.lt
  exact⟨e,h.skip hq.lo hq.lt fun j j1 j2=>rt.noSt q (by omega) (.inl (by omega)) j (hq.hin j j1 j2) j2⟩
structure BPre (ns:List Nd) (root:Int) (d l:List Int) (s:BSt):Prop where
 inv:∃ e,BInv ns root s e
 hd:(nd ns root.toNat).kids=d++l
 ahead:∀ k∈d,k<(s.fst:Int)
 left:∀ k∈l,(s.fst:Int)≤lowS ns k.toNat+1
theorem BPre.step {ns:List Nd} {root:Int} (rt:RightT ns root) {d l:List Int} {q:Int} {s:BSt} (h:BPre ns root d (q::l) s):BPre ns root (d++[q]) l (stepB ns s q.toNat):=by
 obtain⟨h1,h2,h3⟩:=step_h rt h.hd h.ahead h.left
 refine⟨BInv.step rt h.inv h1,by rw [h.hd];simp,fun k hk=>?_,fun k hk=>?_⟩
 ·rw [stepB_fst]
  rcases List.mem_append.1 hk with hk|hk
  ·have:=h.ahead k hk;have:=h1.lo;omega
  ·simp only [List.mem_cons,List.not_mem_nil,or_false] at hk;subst hk;omega
 ·rw [stepB_fst];exact h3 k hk
theorem buildR_cons (ns:List Nd) (q:Int) (l:List Int) (s:BSt):buildR ns (q::l) s=buildR ns l (stepB ns s q.toNat):=by
 simp only [buildR,stepB]
 cases (nd ns q.toNat).k==3<;>rfl
theorem bpre0 {ns:List Nd} {root:Int} (rt:RightT ns root):BPre ns root [] (nd ns root.toNat).kids bst0:=by
 refine⟨⟨_,binv0 rt⟩,rfl,fun k hk=>by simp at hk,fun k hk=>?_⟩
 have:=rt.rt
 have:=rt.pos
 obtain⟨q0,q1,_⟩:=rt.kid root.toNat (by omega) k hk
 have:=rt.self k.toNat (by omega)
 simp only [bst0]
 omega
end Go.Ru
namespace Go.Ru
theorem endS_at {p:Nat→Bool} {n j:Nat} (h1:j<n) (h2:p j=true) (h3:∀ i,i<j→p i=false):endS n p=(j:Int):=by
 simp only [endS,firstB_eq h1 h2 h3]
theorem endS_no {p:Nat→Bool} {n:Nat} (h:∀ i,i<n→p i=false):endS n p=-1:=by
 unfold endS
 split
 ·rename_i j hj
  obtain⟨h1,h2,_⟩:=firstB_some hj
  rw [h j h1] at h2;cases h2
 ·rfl
def kindP (f:Nat→GN) (kind proc:Int) (x:Nat):Bool:=(f x).k==kind&&(f x).pr==proc
def endT (s:BSt) (kind proc:Int):Int:=endS s.n (kindP s.f kind proc)
section
variable {ns:List Nd} {root:Int} {s:BSt} {e:Nat→Nat} (h:BInv ns root s e)
include h
end
theorem cntB_le (p:Nat→Bool) (n:Nat):cntB p n≤n:=by
 induction n with
 | zero=>exact Nat.le_refl _
 | succ n ih =>
  have e:cntB p (n+1)=cntB p n+(match p n with|true=>1|false=>0):=rfl
  rw [e]
  cases p n<;>simp only<;>omega
end Go.Ru
namespace Go.Proofs.YtcmepkfefoidcaaGreatDoor
open Go.AE Go.Ru
set_option maxRecDepth 100000
set_option maxHeartbeats 1000000
def graphV (s:BSt):AV:=.agg [.p (.sl 5 s.n (gnF s.f)),.p (.sl 1 s.ps.length (kidF s.ps))]
def graphW (s:BSt):AV:=.agg [.p (.sl 5 s.n (gnW s.f)),.p (.sl 1 s.ps.length (kidF s.ps))]
def gnV (g:GN):AV:=.agg [intV g.k,intV g.pl,intV g.pr,intsV g.nx,intV g.ra]
def grW (s:BSt):ABlk:=.box 25 [.p (.sl 5 s.n (gnW s.f)),.p (.sl 1 s.ps.length (kidF s.ps))]
def endK (s:BSt) (kind proc:Int):List ABlk:=[grW s,.box 3 [intV kind],.box 3 [intV proc]]
def cEnd1:AC:=fun args K k=>∃ s x kind proc X,args=[gnV (s.f (x:Nat)),.ptr 1 0 1 0 0,.ptr 2 0 1 0 0]∧K=endK s kind proc++X∧k (.ret (.p (.bool (kindP s.f kind proc x)))) (endK s kind proc++X)
theorem end1_ok:COk 85 cEnd1:=by
 rintro args K k ⟨s,x,kind,proc,X,rfl,rfl,hk⟩
 refine frameG (K0:=endK s kind proc) (X:=X) g0_ok 19 rfl ⟨rfl,rfl,rfl,trivial⟩ fun Q hr=>?_
 conv=>whnf
 refine two_eq (fun h=>?_) (fun h=>?_)
 ·have h:(s.f x).k=kind:=h
  conv=>whnf
  exact hr _ _ _ _ rfl rfl ⟨rfl,rfl,rfl,trivial⟩ (AV.le_refl _) (lesK.refl _) (by simp only [kindP,beq_iff_eq.2 h,Bool.true_and] at hk;exact hk)
 ·have h:(s.f x).k≠kind:=h
  conv=>whnf
  exact hr _ _ _ _ rfl rfl ⟨rfl,rfl,rfl,trivial⟩ (AV.le_refl _) (lesK.refl _) (by simp only [kindP,beq_eq_false_iff_ne.2 h,Bool.false_and] at hk;exact hk)
def cIdxE:AC:=fun args K k=>∃ s kind proc X,args=[.p (.sl 5 s.n (gnW s.f)),.fn 85 [] [.ptr 1 0 1 0 0,.ptr 2 0 1 0 0]]∧K=endK s kind proc++X∧s.n<1000000∧k (.ret (intV (endT s kind proc))) (endK s kind proc++X)
theorem idxE_ok:COk 84 cIdxE:=by
 rintro args K k ⟨s,kind,proc,X,rfl,rfl,hn,hk⟩
 refine frameG (K0:=endK s kind proc) (X:=X) (gput_ok end1_ok g0_ok) 19 rfl ⟨rfl,rfl,rfl,trivial⟩ fun Q hr=>?_
 conv=>whnf
 refine loop_up (ι:=Nat) [0,1,7] (fun i=>[(8,intV i)]) (fun _=>[]) (fun i=>i≤s.n∧∀ j,j<i→(kindP s.f kind proc) j=false) (fun i=>s.n - i) 0 ⟨AV.le_refl _,trivial⟩ trivial ⟨Nat.zero_le _,fun j hj=>by omega⟩ ?_
 rintro Y hle i ⟨hi,he⟩ ih
 conv=>whnf
 refine two_dec (fun h=>?_) (fun h=>?_)
 ·have h:i<s.n:=by have h:(i:Int)<(s.n:Int):=h;omega
  have hw1:=wzz (i:=i) (by omega)
  conv=>whnf
  refine⟨⟨by omega,by omega,rfl⟩,?_⟩
  conv=>whnf
  refine⟨s,i,kind,proc,[],rfl,rfl,?_⟩
  conv=>whnf
  refine two_intro (fun h2=>?_) (fun h2=>?_)
  ·have h2:(kindP s.f kind proc) i=true:=h2
   conv=>whnf
   exact hr _ _ _ _ rfl rfl ⟨rfl,rfl,rfl,trivial⟩ (AV.le_refl _) (lesK.refl _) ((endS_at h h2 he)▸hk)
  ·have h2:(kindP s.f kind proc) i=false:=h2
   conv=>whnf
   refine hle _ _ (Le.env ?_ ?_) (ih (i+1) (by omega) ⟨by omega,fun j hj=>by
    by_cases e:j=i
    ·rw [e];exact h2
    ·exact he j (by omega)⟩)
   ·skip
    repeat' (first|exact trivial|((conv=>whnf);first|exact trivial|refine⟨AV.le_refl _,?_⟩|refine⟨ABlk.le_refl _,?_⟩|(refine⟨AV.le_of_eq ?_,?_⟩;focus ((first|exact congrArg intV hw1|fail);done))|(refine⟨ABlk.le_of_eq ?_,?_⟩;focus ((first|exact congrArg intV hw1|fail);done))|fail)|fail)
   ·skip
    repeat' (first|exact trivial|((conv=>whnf);first|exact trivial|refine⟨AV.le_refl _,?_⟩|refine⟨ABlk.le_refl _,?_⟩|fail)|fail)
 ·obtain rfl:i=s.n:=by have h:¬ (i:Int)<(s.n:Int):=h;omega
  conv=>whnf
  exact hr _ _ _ _ rfl rfl ⟨rfl,rfl,rfl,trivial⟩ (AV.le_refl _) (lesK.refl _) ((endS_no he)▸hk)
def gEnd:AG:=gput 84 cIdxE g0
theorem gEnd_ok:GOk Tryz.prog gEnd:=gput_ok idxE_ok g0_ok
def cEndM:AC:=fun args K k=>∃ s kind proc,args=[graphW s,intV kind,intV proc]∧s.n<1000000∧k (.ret (intV (endT s kind proc))) K
theorem endM_ok:COk 50 cEndM:=by
 rintro args K k ⟨s,kind,proc,rfl,hn,hk⟩
 refine frame0P gEnd_ok 19 rfl fun Q hr=>?_
 conv=>whnf
 refine⟨s,kind,proc,_,rfl,rfl,hn,?_⟩
 conv=>whnf
 exact hr _ _ rfl hk
def gEnd2:AG:=gput 50 cEndM g0
theorem gEnd2_ok:GOk Tryz.prog gEnd2:=gput_ok endM_ok g0_ok
def eEnds (kind:Int):AC:=fun args K k=>∃ s proc v,args=[graphW s,intV proc]∧s.n<1000000∧endT s kind proc=v∧k (.ret (intV v)) K
theorem exit_ok:COk 22 (eEnds 2):=by
 rintro args K k ⟨s,proc,v,rfl,hn,rfl,hk⟩
 refine frame0P gEnd2_ok 19 rfl fun Q hr=>?_
 conv=>whnf
 refine⟨s,2,proc,rfl,hn,?_⟩
 conv=>whnf
 exact hr _ _ rfl hk
end Go.Proofs.YtcmepkfefoidcaaGreatDoor
