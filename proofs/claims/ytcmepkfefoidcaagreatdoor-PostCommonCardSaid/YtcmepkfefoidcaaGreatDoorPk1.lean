/-
  On the way to what follows: part 1 of 0.
-/
import Derived.Test.YtcmepkfefoidcaaGreatDoorProg
import Derived.Lib.LaidTab
import Derived.Lib.ItoaNum
import Derived.Lib.TrailingZeros
import Derived.Maps.AppendAt
import Derived.Laws.CopyRow
import Derived.Laws.Rows
import Derived.Calls
import Derived.RangeFuncRecord
import Derived.TacticsIn
import Derived.Laws.Entries
import Derived.Laws.MakeOwn
set_option linter.unusedVariables false
set_option linter.unusedSimpArgs false
namespace Go.AE
open Go.Proofs
def isG (b:Nat):Prop:=False
 ∨ b=1
 ∨ b=2
 ∨ b=3
 ∨ b=4
 ∨ b=0
def deTab:List Int:=List.map (fun n:Nat=>(n:Int)) Lib.deBruijn64tab
structure GFacts (w:World):Prop where
 tr:True
 maxLen:∃ n,w.cell? ⟨1,0,none⟩=some (.int .i64 n)
 errSyntax:∃ v,w.cell? ⟨2,0,none⟩=some v∧(v=.nilIface∨∃ te pe,v=.iface te pe)
 errRange:∃ v,w.cell? ⟨3,0,none⟩=some v∧(v=.nilIface∨∃ te pe,v=.iface te pe)
 pow10 : Lib.TabIs Tryz.prog w "internal/strconv.uint64pow10" .u64 Lib.pow10Tab
 deB : Lib.TabIs Tryz.prog w "math/bits.deBruijn64tab" .u8 deTab
theorem cell?_same {w w':World} {b o:Nat} (h:w'.heap[b]?=w.heap[b]?):w'.cell? ⟨b,o,none⟩=w.cell? ⟨b,o,none⟩:=by
 simp [World.cell?,h]
theorem pow10_named : Tryz.prog.globalNamed "internal/strconv.uint64pow10" = some 4 := by kernel_rfl
theorem deB_named : Tryz.prog.globalNamed "math/bits.deBruijn64tab" = some 0 := by kernel_rfl
theorem GFacts.same {w w':World} (h:GFacts w) (hs:∀ b,isG b→w'.heap[b]?=w.heap[b]?):GFacts w' where
 tr:=trivial
 maxLen:=by rw [cell?_same (hs _ (by simp [isG]))];exact h.maxLen
 errSyntax:=by rw [cell?_same (hs _ (by simp [isG]))];exact h.errSyntax
 errRange:=by rw [cell?_same (hs _ (by simp [isG]))];exact h.errRange
 pow10:=by
  have e:=hs 4 (by simp [isG])
  have:=h.pow10
  simp only [Lib.TabIs,World.var?,pow10_named,Option.bind_some,e] at this ⊢
  exact this
 deB:=by
  have e:=hs 0 (by simp [isG])
  have:=h.deB
  simp only [Lib.TabIs,World.var?,deB_named,Option.bind_some,e] at this ⊢
  exact this
structure Gl (w:World) (I:Nat→Prop):Prop where
 imm:∀ b,isG b→I b
 facts:GFacts w
theorem Gl.mono {w w':World} {I I':Nat→Prop} (hI:∀ b,I b→I' b) (hs:∀ b,I b→w'.heap[b]?=w.heap[b]?) (h:Gl w I):Gl w' I' :=
 ⟨fun b hb=>hI b (h.imm b hb),h.facts.same fun b hb=>hs b (h.imm b hb)⟩
end Go.AE
namespace Go.AE
inductive KT where
 | int (q:IntKind)
 | str
deriving DecidableEq
inductive MK where
 | i (q:IntKind) (n:Int)
 | s (l:List UInt8)
deriving DecidableEq
def MK.kt:MK→KT
 | .i q _=>.int q
 | .s _=>.str
def MK.val:MK→Value
 | .i q n=>.int q n
 | .s l=>.string ⟨l.toArray⟩
def KT.desc:KT→TypeDesc
 | .int q=>.int q
 | .str=>.string
theorem MK.val_str (s:ByteArray):(MK.s s.data.toList).val=.string s:=by
 simp [MK.val]
theorem bytes_eq (a b:ByteArray):(a==b)=decide (a=b):=by
 have e:(a==b)=(a.data==b.data):=rfl
 rw [e]
 by_cases h:a=b
 ·subst h;simp
 ·have h':a.data≠b.data:=fun e=>h (by cases a;cases b;simpa using e)
  simp [h,h']
theorem sameNow_key {kt:KT} {a b:MK} (ha:a.kt=kt) (hb:b.kt=kt):Instr.sameNow kt.desc a.val b.val=some (decide (a=b)):=by
 cases a with
 | i q n =>
  subst ha
  cases b with
  | i q' n' =>
   simp only [MK.kt,KT.int.injEq] at hb
   subst hb
   by_cases e:n=n'<;>simp [Instr.sameNow,MK.val,KT.desc,MK.kt,e]
  | s l=>simp [MK.kt] at hb
 | s l =>
  subst ha
  cases b with
  | i q' n'=>simp [MK.kt] at hb
  | s l' =>
   by_cases e:l=l'
   ·subst e;simp [Instr.sameNow,MK.val,KT.desc,MK.kt,bytes_eq]
   ·have:(⟨l.toArray⟩:ByteArray)≠⟨l'.toArray⟩:=fun h=>e (by injection h with h;simpa using h)
    simp only [Instr.sameNow,MK.val,KT.desc,MK.kt,bytes_eq,MK.s.injEq,e,this,decide_false]
theorem sameNow_true {kt:KT} {a:MK} (ha:a.kt=kt) {x:Value} (h:Instr.sameNow kt.desc a.val x=some true):x=a.val:=by
 cases a with
 | i q n =>
  subst ha
  cases x<;>simp [Instr.sameNow,MK.val,KT.desc,MK.kt] at h
  obtain⟨h1,h2⟩:=h
  simp [MK.val,h1,h2]
 | s l =>
  subst ha
  cases x<;>simp [Instr.sameNow,MK.val,KT.desc,MK.kt,bytes_eq] at h
  simp [MK.val,h]
theorem findNow_at {d:TypeDesc} {k:Value} {es:List MapEntry}:∀ {s j:Nat} {u:Value},Instr.findNow d k es s=some (some (j,u)) →
  ∃ i e,j=s+i∧es[i]?=some e∧Instr.sameNow d k e.key=some true∧e.val=u:=by
 induction es with
 | nil=>intro s j u h;simp [Instr.findNow] at h
 | cons e es ih =>
  intro s j u h
  simp only [Instr.findNow] at h
  split at h
  ·rename_i hs
   simp only [Option.some.injEq,Prod.mk.injEq] at h
   exact⟨0,e,by omega,rfl,hs,h.2⟩
  ·obtain⟨i,e',h1,h2,h3,h4⟩:=ih h
   exact⟨i+1,e',by omega,by simpa using h2,h3,h4⟩
  ·simp at h
theorem findNow_push {kt:KT} {k κ:MK} (hk:k.kt=kt) (hκ:κ.kt=kt) (e:MapEntry) (he:e.key=κ.val) {es:List MapEntry}:∀ {s:Nat} {r:Option (Nat×Value)},
  Instr.findNow kt.desc k.val es s=some r→Instr.findNow kt.desc k.val (es++[e]) s=some (match r with|some x=>some x|none=>if k=κ then some (s+es.length,e.val) else none):=by
 induction es with
 | nil =>
  intro s r h
  simp only [Instr.findNow,Option.some.injEq] at h
  subst h
  simp only [List.nil_append,Instr.findNow,he,sameNow_key hk hκ]
  by_cases e:k=κ<;>simp [e]
 | cons a es ih =>
  intro s r h
  simp only [List.cons_append,Instr.findNow] at h ⊢
  cases hs:Instr.sameNow kt.desc k.val a.key with
  | none=>rw [hs] at h;simp at h
  | some b =>
   rw [hs] at h
   cases b with
   | true=>simp only [Option.some.injEq] at h ⊢;subst h;rfl
   | false =>
    simp only at h ⊢
    rw [ih h]
    cases r with
    | some x=>rfl
    | none=>simp only [List.length_cons];split<;>simp;omega
theorem findNow_modify {kt:KT} {k κ:MK} (hk:k.kt=kt) (hκ:κ.kt=kt) (f:MapEntry→MapEntry) (hf:∀ e,(f e).key=κ.val) {es:List MapEntry}:∀ {i s:Nat} {r:Option (Nat×Value)} {u:Value},
  Instr.findNow kt.desc κ.val es s=some (some (s+i,u))→Instr.findNow kt.desc k.val es s=some r →
  ∃ e,es[i]?=some e∧Instr.findNow kt.desc k.val (es.modify i f) s=some (if k=κ then some (s+i,(f e).val) else r):=by
 induction es with
 | nil=>intro i s r u h;simp [Instr.findNow] at h
 | cons a es ih =>
  intro i s r u h h'
  simp only [Instr.findNow] at h h'
  cases hs:Instr.sameNow kt.desc κ.val a.key with
  | none=>rw [hs] at h;simp at h
  | some b =>
   rw [hs] at h
   cases b with
   | true =>
    simp only [Option.some.injEq,Prod.mk.injEq] at h
    obtain⟨h,rfl⟩:=h
    have hi:i=0:=by omega
    subst hi
    refine⟨a,rfl,?_⟩
    have ha:=sameNow_true hκ hs
    simp only [List.modify_zero_cons,Instr.findNow,hf,sameNow_key hk hκ]
    rw [ha,sameNow_key hk hκ] at h'
    by_cases e:k=κ
    ·simp [e]
    ·simp only [e,decide_false] at h' ⊢
     simpa using h'
   | false =>
    simp only at h
    obtain⟨j,e,h1,h2,h3,h4⟩:=findNow_at h
    have hi:i=j+1:=by omega
    subst hi
    have h0:Instr.findNow kt.desc κ.val es (s+1)=some (some (s+1+j,u)):=by rw [h];simp;omega
    cases hs':Instr.sameNow kt.desc k.val a.key with
    | none=>rw [hs'] at h';simp at h'
    | some b' =>
     rw [hs'] at h'
     cases b' with
     | true =>
      simp only [Option.some.injEq] at h'
      subst h'
      refine⟨e,by simpa using h2,?_⟩
      have hne:k≠κ:=by
       intro e'
       subst e'
       rw [hs] at hs'
       simp at hs'
      simp only [List.modify_succ_cons,Instr.findNow,hs',hne,if_false]
     | false =>
      simp only at h'
      obtain⟨e2,h5,h6⟩:=ih h0 h'
      refine⟨e2,by simpa using h5,?_⟩
      simp only [List.modify_succ_cons,Instr.findNow,hs',h6]
      split<;>simp
      omega
structure MapIs (kt:KT) (es:List MapEntry) (clock:Nat) (r:MK→Option (Nat×Value)):Prop where
 find:∀ κ,κ.kt=kt→Instr.findNow kt.desc κ.val es 0=some (r κ)
 born:∀ (i j:Nat) (e e':MapEntry),es[i]?=some e→es[j]?=some e'→e.born=e'.born→i=j
 clock:∀ (i:Nat) (e:MapEntry),es[i]?=some e→e.born<clock
theorem MapIs.at {kt:KT} {es:List MapEntry} {clock:Nat} {r:MK→Option (Nat×Value)} (h:MapIs kt es clock r) {κ:MK} (hκ:κ.kt=kt) {i:Nat} {u:Value} (hr:r κ=some (i,u)) :
  ∃ e,es[i]?=some e∧e.key=κ.val∧e.val=u:=by
 have:=h.find κ hκ
 rw [hr] at this
 obtain⟨j,e,h1,h2,h3,h4⟩:=findNow_at this
 have:i=j:=by omega
 subst this
 exact⟨e,h2,sameNow_true hκ h3,h4⟩
theorem MapIs.empty (kt:KT):MapIs kt [] 0 (fun _=>none):=⟨fun _ _=>rfl,fun _ _ _ _ h=>by simp at h,fun _ _ h=>by simp at h⟩
theorem MapIs.push {kt:KT} {es:List MapEntry} {clock:Nat} {r:MK→Option (Nat×Value)} (h:MapIs kt es clock r) {κ:MK} (hκ:κ.kt=kt) (hr:r κ=none) (v:Value) :
  MapIs kt (es++[{ key:=κ.val,val:=v,born:=clock }]) (clock+1) (fun k=>if k=κ then some (es.length,v) else r k) where
 find:=fun k hk=>by
  rw [findNow_push hk hκ _ rfl (h.find k hk)]
  by_cases e:k=κ
  ·subst e;simp [hr]
  ·simp only [e,if_false];cases r k<;>rfl
 born:=fun i j e e' hi hj hb=>by
  rw [List.getElem?_append] at hi hj
  split at hi<;>split at hj
  ·exact h.born i j e e' hi hj hb
  ·rename_i hi' hj'
   have h1:=h.clock i e hi
   have h2:e'={ key:=κ.val,val:=v,born:=clock }:=by
    cases hq:j - es.length with
    | zero=>rw [hq] at hj;simpa using hj.symm
    | succ n=>rw [hq] at hj;simp at hj
   rw [hb,h2] at h1
   simp at h1
  ·rename_i hi' hj'
   have h1:=h.clock j e' hj
   have h2:e={ key:=κ.val,val:=v,born:=clock }:=by
    cases hq:i - es.length with
    | zero=>rw [hq] at hi;simpa using hi.symm
    | succ n=>rw [hq] at hi;simp at hi
   rw [← hb,h2] at h1
   simp at h1
  ·cases hq:i - es.length with
   | zero=>cases hq':j - es.length with
    | zero=>omega
    | succ n=>rw [hq'] at hj;simp at hj
   | succ n=>rw [hq] at hi;simp at hi
 clock:=fun i e hi=>by
  rw [List.getElem?_append] at hi
  split at hi
  ·exact Nat.lt_succ_of_lt (h.clock i e hi)
  ·cases hq:i - es.length with
   | zero=>rw [hq] at hi;simp at hi;rw [← hi];exact Nat.lt_succ_self _
   | succ n=>rw [hq] at hi;simp at hi
theorem MapIs.modify {kt:KT} {es:List MapEntry} {clock:Nat} {r:MK→Option (Nat×Value)} (h:MapIs kt es clock r) {κ:MK} (hκ:κ.kt=kt) {i:Nat} {u:Value} (hr:r κ=some (i,u)) (v:Value) :
  MapIs kt (es.modify i fun e=>{ e with key:=κ.val,val:=v }) clock (fun k=>if k=κ then some (i,v) else r k) where
 find:=fun k hk=>by
  have h1:=h.find κ hκ
  rw [hr] at h1
  obtain⟨e,_,h2⟩:=findNow_modify hk hκ (fun e=>{ e with key:=κ.val,val:=v }) (fun _=>rfl) (i:=i) (s:=0) (u:=u) (by rw [h1];simp) (h.find k hk)
  rw [h2]
  simp
 born:=fun a b e e' ha hb he=>by
  rw [List.getElem?_modify] at ha hb
  have key:∀ {a:Nat} {e:MapEntry},Option.map (fun x=>if i=a then { x with key:=κ.val,val:=v } else x) es[a]?=some e→∃ e0,es[a]?=some e0∧e0.born=e.born:=by
   intro a e h
   cases hq:es[a]? with
   | none=>rw [hq] at h;simp at h
   | some e0 =>
    rw [hq] at h
    refine⟨e0,rfl,?_⟩
    simp only [Option.map_some,Option.some.injEq] at h
    rw [← h]
    split<;>rfl
  have ha':∃ e0,es[a]?=some e0∧e0.born=e.born:=key (by rw [← ha];cases es[a]?<;>simp [Functor.map]<;>split<;>rfl)
  have hb':∃ e0,es[b]?=some e0∧e0.born=e'.born:=key (by rw [← hb];cases es[b]?<;>simp [Functor.map]<;>split<;>rfl)
  obtain⟨x,h1,h2⟩:=ha'
  obtain⟨y,h3,h4⟩:=hb'
  exact h.born a b x y h1 h3 (by rw [h2,h4,he])
 clock:=fun a e ha=>by
  rw [List.getElem?_modify] at ha
  cases hq:es[a]? with
  | none=>rw [hq] at ha;simp at ha
  | some e0 =>
   rw [hq] at ha
   have:=h.clock a e0 hq
   simp only [Option.map_eq_map,Option.map_some,Option.some.injEq] at ha
   rw [← ha]
   split<;>exact this
end Go.AE
namespace Go.AE
inductive PV where
 | int (k:IntKind) (n:Int)
 | bool (b:Bool)
 | str (l:List UInt8)
 | nilp
 | nils
 | nilf
 | nili
 | nilm
 | fn (f:FuncId)
 | sl (sz n:Nat) (f:Nat→List PV)
 | mp (kt:KT) (g:MK→Option PV)
inductive AV where
 | p (v:PV)
 | ptr (r ver n i off:Nat)
 | rop (cs:List PV) (off:Nat)
 | slr (r ver off n:Nat)
 | fn (f:FuncId) (first cap:List AV)
 | iface (t:TypeId) (v:AV)
 | agg (cs:List AV)
 | tup (vs:List AV)
 | yld (r:Nat)
 | mref (r:Nat)
 | junk
def look:List (Nat×AV)→Nat→AV
 | [],_=>.junk
 | (j,v)::r,i=>match Nat.beq j i with
  | true=>v
  | false=>look r i
inductive Inf where
 | absent
 | dead
 | nil (ver:Nat)
 | live (ver n sz cap:Nat)
def Inf.isLive:Inf→Prop
 | .live _ _ _ _=>True
 | _=>False
def Inf.old (l:Inf) (ver n:Nat):Prop :=
 match l with
 | .absent=>False
 | .dead=>True
 | .nil v=>ver<v
 | .live v m _ _=>ver<v∨(ver=v∧n<m)
structure Mp where
 ρ:Nat→Nat
 I:Nat→Prop
 L:Nat→Inf
inductive VP (w:World) (I:Nat→Prop):PV→Value→Prop where
 | int (k:IntKind) (n:Int):VP w I (.int k n) (.int k n)
 | bool (b:Bool):VP w I (.bool b) (.bool b)
 | str (s:ByteArray) (l:List UInt8) (h:s.data.toList=l):VP w I (.str l) (.string s)
 | nilp:VP w I .nilp (.pointer none)
 | nils:VP w I .nils (.slice none 0 0)
 | nilf:VP w I .nilf .nilFunc
 | nili:VP w I .nili .nilIface
 | nilm:VP w I .nilm (.map none)
 | fn (f:FuncId):VP w I (.fn f) (.func (.func f) #[] #[])
 | sl0 (sz:Nat) (f:Nat→List PV) (a:Option Addr) (c:Nat):VP w I (.sl sz 0 f) (.slice a 0 c)
 | sl (sz n:Nat) (f:Nat→List PV) (b o c:Nat) (u:Nat→Nat→Value) (hI:I b) (hcap:n≤c∧n≤maxLen)
   (hc:∀ i,i<n→∀ j,j<(f i).length→w.cell? ⟨b,o+(i*sz+j),none⟩=some (u i j))
   (hv:∀ i,i<n→∀ j (hj:j<(f i).length),VP w I (f i)[j] (u i j)):VP w I (.sl sz n f) (.slice (some ⟨b,o,none⟩) n c)
 | mp (kt:KT) (g:MK→Option PV) (b:Nat) (es:Array MapEntry) (clock:Nat) (r:MK→Option (Nat×Value)) (hI:I b) (ho:w.heap[b]?=some (.map es clock)) (hr:MapIs kt es.toList clock r)
   (hn:∀ κ,κ.kt=kt→g κ=none→r κ=none) (hs:∀ κ p,κ.kt=kt→g κ=some p→(r κ).isSome=true)
   (hv:∀ κ p i u,κ.kt=kt→g κ=some p→r κ=some (i,u)→VP w I p u):VP w I (.mp kt g) (.map (some b))
inductive V (w:World) (m:Mp):AV→Value→Prop where
 | p (v:PV) (u:Value) (h:VP w m.I v u):V w m (.p v) u
 | ptr (r ver n i off sz cap:Nat) (h:m.L r=.live ver n sz cap) (hi:i<n):V w m (.ptr r ver n i off) (.pointer (some ⟨m.ρ r,i*sz+off,none⟩))
 | ptrOld (r ver n i off b o:Nat) (h:(m.L r).old ver n):V w m (.ptr r ver n i off) (.pointer (some ⟨b,o,none⟩))
 | slr (r ver off n N sz cap:Nat) (h:m.L r=.live ver N sz cap) (hn:off+n=N):V w m (.slr r ver off n) (.slice (some ⟨m.ρ r,off*sz,none⟩) n (cap - off))
 | slrNil (r ver:Nat) (a:Option Addr) (h:m.L r=.nil ver):V w m (.slr r ver 0 0) (.slice a 0 0)
 | slrEnd (r ver N sz cap:Nat) (a:Option Addr) (h:m.L r=.live ver N sz cap):V w m (.slr r ver N 0) (.slice a 0 0)
 | slrOld (r ver off n:Nat) (ad:Option Addr) (c:Nat) (h:(m.L r).old ver (off+n)):V w m (.slr r ver off n) (.slice ad n c)
 | rop (cs:List PV) (off b o:Nat) (u:Nat→Value) (hI:m.I b)
   (hc:∀ j,j<cs.length→w.cell? ⟨b,o+j,none⟩=some (u j))
   (hv:∀ j (hj:j<cs.length),VP w m.I cs[j] (u j)):V w m (.rop cs off) (.pointer (some ⟨b,o+off,none⟩))
 | fn (f:FuncId) (first cap:List AV) (A B:Array Value) (hA:first.length=A.size) (hB:cap.length=B.size)
   (h1:∀ j (hj:j<first.length) (hj':j<A.size),V w m first[j] A[j]) (h2:∀ j (hj:j<cap.length) (hj':j<B.size),V w m cap[j] B[j]) :
   V w m (.fn f first cap) (.func (.func f) A B)
 | iface (t:TypeId) (v:AV) (u:Value) (h:V w m v u):V w m (.iface t v) (.iface t u)
 | agg (cs:List AV) (A:Array Value) (hA:cs.length=A.size) (h:∀ j (hj:j<cs.length) (hj':j<A.size),V w m cs[j] A[j]):V w m (.agg cs) (.agg A)
 | tup (cs:List AV) (A:Array Value) (hA:cs.length=A.size) (h:∀ j (hj:j<cs.length) (hj':j<A.size),V w m cs[j] A[j]):V w m (.tup cs) (.tuple A)
 | yld (r sz cap:Nat) (h:m.L r=.live 0 1 sz cap):V w m (.yld r) (.func (.yield (m.ρ r)) #[] #[])
 | yldOld (r b:Nat) (h:(m.L r).old 0 1):V w m (.yld r) (.func (.yield b) #[] #[])
 | mref (r sz cap:Nat) (h:m.L r=.live 0 1 sz cap):V w m (.mref r) (.map (some (m.ρ r)))
 | mrefOld (r b:Nat) (h:(m.L r).old 0 1):V w m (.mref r) (.map (some b))
 | junk (u:Value):V w m .junk u
def AV.one:AV→Bool
 | .p _ | .ptr _ _ _ _ _ | .rop _ _ | .slr _ _ _ _ | .fn _ _ _ | .iface _ _ | .yld _ | .mref _=>true
 | _=>false
theorem VP.one {w:World} {I:Nat→Prop} {v:PV} {u:Value} (h:VP w I v u):u.oneCell'=true:=by cases h<;>rfl
theorem V.one {w:World} {m:Mp} {a:AV} {u:Value} (h:V w m a u) (h1:a.one=true):u.oneCell'=true:=by
 cases h with
 | p v u h=>exact h.one
 | agg=>simp [AV.one] at h1
 | tup=>simp [AV.one] at h1
 | junk=>simp [AV.one] at h1
 | _=>rfl
def Inf.step (l l':Inf) (same:Prop):Prop :=
 match l with
 | .absent=>True
 | .dead=>l'=.dead
 | .nil v=>l'=.dead∨l'=.nil v∨∃ v' n' sz' cap',l'=.live v' n' sz' cap'∧(v<v'∨(v=v'∧0<n'))
 | .live v n sz cap=>l'=.dead∨(l'=.live v n sz cap∧same)∨∃ v' n' sz' cap',l'=.live v' n' sz' cap'∧(v<v'∨(v=v'∧n<n'))
structure Tr (w:World) (m:Mp) (w':World) (m':Mp):Prop where
 os:w'.os=w.os
 tape:w'.tape=w.tape
 output:w'.output=w.output
 size:w.heap.size≤w'.heap.size
 out:∀ b,b<w.heap.size→(∀ r,(m.L r).isLive→m.ρ r≠b)→w'.heap[b]?=w.heap[b]?
 imm:∀ b,m.I b→m'.I b
 same:∀ b,m.I b→w'.heap[b]?=w.heap[b]?
 newI:∀ b,m'.I b→m.I b∨(∃ r,(m.L r).isLive∧m.ρ r=b)∨w.heap.size≤b
 step:∀ r,(m.L r).step (m'.L r) (m'.ρ r=m.ρ r)
 newρ:∀ r,(m'.L r).isLive→((m.L r).isLive∧m'.ρ r=m.ρ r)∨w.heap.size≤m'.ρ r
theorem Inf.step_refl (l:Inf) (p:Prop) (h:p):l.step l p:=by
 cases l<;>simp [Inf.step,h]
theorem Inf.step_trans {l l' l'':Inf} {p q r:Prop} (h:l.step l' p) (h':l'.step l'' q) (hr:p→q→r):l.step l'' r:=by
 cases l with
 | absent=>trivial
 | dead=>simp only [Inf.step] at h;subst h;exact h'
 | nil v =>
  simp only [Inf.step] at h ⊢
  rcases h with h|h|⟨v',n',sz',cap',h,hlt⟩
  ·subst h;exact .inl h'
  ·subst h;exact h'
  ·subst h
   simp only [Inf.step] at h'
   rcases h' with h'|⟨h',_⟩|⟨v2,n2,s2,c2,h',hlt2⟩
   ·exact .inl h'
   ·exact .inr (.inr ⟨_,_,_,_,h',hlt⟩)
   ·exact .inr (.inr ⟨_,_,_,_,h',by omega⟩)
 | live v n sz cap =>
  simp only [Inf.step] at h ⊢
  rcases h with h|⟨h,hp⟩|⟨v',n',sz',cap',h,hlt⟩
  ·subst h;exact .inl h'
  ·subst h
   simp only [Inf.step] at h'
   rcases h' with h'|⟨h',hq⟩|h'
   ·exact .inl h'
   ·exact .inr (.inl ⟨h',hr hp hq⟩)
   ·exact .inr (.inr h')
  ·subst h
   simp only [Inf.step] at h'
   rcases h' with h'|⟨h',_⟩|⟨v2,n2,s2,c2,h',hlt2⟩
   ·exact .inl h'
   ·exact .inr (.inr ⟨_,_,_,_,h',hlt⟩)
   ·exact .inr (.inr ⟨_,_,_,_,h',by omega⟩)
theorem Inf.step_imp {l l':Inf} {p q:Prop} (h:p→q) (h':l.step l' p):l.step l' q:=by
 cases l with
 | live v n sz cap =>
  simp only [Inf.step] at h' ⊢
  rcases h' with h'|⟨h',hp⟩|h'
  ·exact .inl h'
  ·exact .inr (.inl ⟨h',h hp⟩)
  ·exact .inr (.inr h')
 | _=>exact h'
theorem Inf.old_step {l l':Inf} {p:Prop} {ver n:Nat} (h:l.old ver n) (h':l.step l' p):l'.old ver n:=by
 cases l with
 | absent=>exact h.elim
 | dead=>simp only [Inf.step] at h';subst h';exact h
 | nil v =>
  simp only [Inf.step] at h'
  simp only [Inf.old] at h
  rcases h' with h'|h'|⟨v2,n2,s2,c2,h',hlt⟩<;>subst h'<;>simp only [Inf.old]
  ·exact h
  ·omega
 | live v m sz cap =>
  simp only [Inf.step] at h'
  simp only [Inf.old] at h
  rcases h' with h'|⟨h',_⟩|⟨v2,n2,s2,c2,h',hlt⟩<;>subst h'<;>simp only [Inf.old]
  ·exact h
  ·omega
theorem Tr.refl (w:World) (m:Mp):Tr w m w m :=
 ⟨rfl,rfl,rfl,Nat.le_refl _,fun _ _ _=>rfl,fun _ h=>h,fun _ _=>rfl,fun _ h=>.inl h,fun _=>Inf.step_refl _ _ rfl,fun _ h=>.inl ⟨h,rfl⟩⟩
theorem Tr.trans {w w1 w2:World} {m m1 m2:Mp} (h:Tr w m w1 m1) (k:Tr w1 m1 w2 m2):Tr w m w2 m2 where
 os:=k.os.trans h.os
 tape:=k.tape.trans h.tape
 output:=k.output.trans h.output
 size:=Nat.le_trans h.size k.size
 out:=fun b hb hr=>by
  rw [k.out b (Nat.lt_of_lt_of_le hb h.size) ?_,h.out b hb hr]
  intro r hl e
  rcases h.newρ r hl with ⟨h1,h2⟩|h1
  ·exact hr r h1 (h2▸e)
  ·omega
 imm:=fun b hb=>k.imm b (h.imm b hb)
 same:=fun b hb=>(k.same b (h.imm b hb)).trans (h.same b hb)
 newI:=fun b hb=>by
  rcases k.newI b hb with h1|⟨r,h1,h2⟩|h1
  ·exact h.newI b h1
  ·rcases h.newρ r h1 with ⟨h3,h4⟩|h3
   ·exact .inr (.inl ⟨r,h3,h4▸h2⟩)
   ·exact .inr (.inr (by omega))
  ·exact .inr (.inr (Nat.le_trans h.size h1))
 step:=fun r=>Inf.step_trans (h.step r) (k.step r) (fun a b=>b.trans a)
 newρ:=fun r hr=>by
  rcases k.newρ r hr with ⟨h1,h2⟩|h1
  ·rcases h.newρ r h1 with ⟨h3,h4⟩|h3
   ·exact .inl ⟨h3,h2.trans h4⟩
   ·exact .inr (by omega)
  ·exact .inr (Nat.le_trans h.size h1)
theorem VP.mono {w w':World} {I I':Nat→Prop} (hI:∀ b,I b→I' b) (hs:∀ b,I b→w'.heap[b]?=w.heap[b]?) {v:PV} {u:Value} (h:VP w I v u):VP w' I' v u:=by
 induction h with
 | int=>exact .int ..
 | bool=>exact .bool ..
 | str s l h=>exact .str s l h
 | nilp=>exact .nilp
 | nils=>exact .nils
 | nilf=>exact .nilf
 | nili=>exact .nili
 | nilm=>exact .nilm
 | fn=>exact .fn ..
 | sl0=>exact .sl0 ..
 | sl sz n f b o c u hb hcap hc hv ih =>
  refine .sl sz n f b o c u (hI b hb) hcap (fun i hi j hj=>?_) ih
  rw [← hc i hi j hj]
  simp [World.cell?,hs b hb]
 | mp kt g b es clock r hb ho hr hn hs' hv ih=>exact .mp kt g b es clock r (hI b hb) (by rw [hs b hb];exact ho) hr hn hs' ih
theorem V.mono {w w':World} {m m':Mp} (t:Tr w m w' m') {a:AV} {u:Value} (h:V w m a u):V w' m' a u:=by
 induction h with
 | p v u h=>exact .p v u (h.mono t.imm t.same)
 | ptr r ver n i off sz cap h hi =>
  have hs:=t.step r
  rw [h] at hs
  simp only [Inf.step] at hs
  rcases hs with hs|⟨hs,he⟩|⟨v',n',sz',cap',hs,hlt⟩
  ·exact .ptrOld _ _ _ _ _ _ _ (by rw [hs];trivial)
  ·rw [← he];exact .ptr _ _ _ _ _ _ _ hs hi
  ·exact .ptrOld _ _ _ _ _ _ _ (by rw [hs];exact hlt)
 | ptrOld r ver n i off b o h=>exact .ptrOld _ _ _ _ _ _ _ (Inf.old_step h (t.step r))
 | slr r ver off n N sz cap h hn =>
  have hs:=t.step r
  rw [h] at hs
  simp only [Inf.step] at hs
  rcases hs with hs|⟨hs,he⟩|⟨v',n',sz',cap',hs,hlt⟩
  ·exact .slrOld _ _ _ _ _ _ (by rw [hs];trivial)
  ·rw [← he];exact .slr _ _ _ _ _ _ _ hs hn
  ·exact .slrOld _ _ _ _ _ _ (by rw [hs,hn];exact hlt)
 | slrNil r ver a h =>
  have hs:=t.step r
  rw [h] at hs
  simp only [Inf.step] at hs
  rcases hs with hs|hs|⟨v',n',sz',cap',hs,hlt⟩
  ·exact .slrOld _ _ _ _ _ _ (by rw [hs];trivial)
  ·exact .slrNil _ _ _ hs
  ·exact .slrOld _ _ _ _ _ _ (by rw [hs];exact hlt)
 | slrEnd r ver N sz cap a h =>
  have hs:=t.step r
  rw [h] at hs
  simp only [Inf.step] at hs
  rcases hs with hs|⟨hs,he⟩|⟨v',n',sz',cap',hs,hlt⟩
  ·exact .slrOld _ _ _ _ _ _ (by rw [hs];trivial)
  ·exact .slrEnd _ _ _ _ _ _ hs
  ·exact .slrOld _ _ _ _ _ _ (by rw [hs];exact hlt)
 | slrOld r ver off n ad c h=>exact .slrOld _ _ _ _ _ _ (Inf.old_step h (t.step r))
 | rop cs off b o u hb hc hv =>
  refine .rop cs off b o u (t.imm b hb) (fun j hj=>?_) (fun j hj=>(hv j hj).mono t.imm t.same)
  rw [← hc j hj]
  simp [World.cell?,t.same b hb]
 | fn f first cap A B hA hB h1 h2 ih1 ih2=>exact .fn f first cap A B hA hB ih1 ih2
 | iface t v u h ih=>exact .iface t v u ih
 | agg cs A hA h ih=>exact .agg cs A hA ih
 | tup cs A hA h ih=>exact .tup cs A hA ih
 | yld r sz cap h =>
  have hs:=t.step r
  rw [h] at hs
  simp only [Inf.step] at hs
  rcases hs with hs|⟨hs,he⟩|⟨v',n',sz',cap',hs,hlt⟩
  ·exact .yldOld _ _ (by rw [hs];trivial)
  ·rw [← he];exact .yld _ _ _ hs
  ·exact .yldOld _ _ (by rw [hs];exact hlt)
 | yldOld r b h=>exact .yldOld _ _ (Inf.old_step h (t.step r))
 | mref r sz cap h =>
  have hs:=t.step r
  rw [h] at hs
  simp only [Inf.step] at hs
  rcases hs with hs|⟨hs,he⟩|⟨v',n',sz',cap',hs,hlt⟩
  ·exact .mrefOld _ _ (by rw [hs];trivial)
  ·rw [← he];exact .mref _ _ _ hs
  ·exact .mrefOld _ _ (by rw [hs];exact hlt)
 | mrefOld r b h=>exact .mrefOld _ _ (Inf.old_step h (t.step r))
 | junk u=>exact .junk u
inductive LSt where
 | ready
 | busy
 | ret
 | exit (n:Nat)
 | over
def LSt.state:LSt→LoopState
 | .ready=>.ready
 | .busy=>.busy
 | .ret=>.done
 | .exit _=>.done
 | .over=>.exhausted
def LSt.pends:LSt→Option Code→Prop
 | .ready,p=>p=none
 | .busy,p=>p=none
 | .ret,p=>p=some .ret
 | .exit n,p=>p=some (.exit n)
 | .over,_=>True
inductive ABlk where
 | absent
 | dead
 | box (ty:TypeId) (cs:List AV)
 | arr (ty:TypeId) (sz ver n:Nat) (f:Nat→List AV)
 | lp (s:LSt) (env:List (Nat×AV)) (N:Nat) (ps:Array Tmp) (assign body:Code)
 | mp (kt:KT) (g:MK→Option AV) (st:List (MK×Nat))
structure MpOk (V':AV→Value→Prop) (kt:KT) (es:List MapEntry) (clock:Nat) (g:MK→Option AV) (st:List (MK×Nat)) (r:MK→Option (Nat×Value)):Prop where
 is:MapIs kt es clock r
 no:∀ κ,κ.kt=kt→g κ=none→r κ=none
 yes:∀ κ a,κ.kt=kt→g κ=some a→∃ i u,r κ=some (i,u)∧V' a u
 st:∀ κ n,(κ,n)∈st→κ.kt=kt∧∃ i u e,r κ=some (i,u)∧es[i]?=some e∧e.born=n
theorem MpOk.mono {V' V2:AV→Value→Prop} {kt:KT} {es:List MapEntry} {clock:Nat} {g:MK→Option AV} {st:List (MK×Nat)} {r:MK→Option (Nat×Value)} (h:MpOk V' kt es clock g st r)
  (hV:∀ κ a u,g κ=some a→V' a u→V2 a u):MpOk V2 kt es clock g st r :=
 ⟨h.is,h.no,fun κ a hk hg=>let ⟨i,u,h1,h2⟩:=h.yes κ a hk hg;⟨i,u,h1,hV κ a u hg h2⟩,h.st⟩
def BlkOk (w:World) (m:Mp) (l:Inf) (g:Nat):ABlk→Prop
 | .absent=>l=.absent
 | .dead=>l=.dead
 | .box ty cs=>l=.live 0 1 cs.length 1∧∃ c:Array Value,w.heap[g]?=some (.cells c ty (0,0))∧c.size=cs.length ∧
   ∀ j (hj:j<cs.length),∃ u,c[j]?=some u∧V w m cs[j] u
 | .arr ty sz ver n f=>(l=.nil ver∧n=0)∨∃ (cap:Nat) (c:Array Value),l=.live ver n sz cap∧n≤cap∧cap≤maxLen∧w.heap[g]?=some (.cells c ty (0,0))∧c.size=cap*sz ∧
   ∀ i,i<n→(f i).length=sz∧∀ j (hj:j<(f i).length),∃ u,c[i*sz+j]?=some u∧V w m (f i)[j] u
 | .lp s env N ps assign body=>l=.live 0 1 1 1∧∃ (p:Option Code) (fn:FuncId) (tmps:Array Value) (D:Nat),
   w.heap[g]?=some (.loop { state:=s.state,pending:=p,fn:=fn,tmps:=tmps,params:=ps,assign:=assign,body:=body,defers:=D })∧s.pends p∧tmps.size=N ∧
   ∀ d,V w m (look env d) (tmps.getD d undef)
 | .mp kt q st=>l=.live 0 1 1 1∧∃ (es:Array MapEntry) (clock:Nat) (r:MK→Option (Nat×Value)),w.heap[g]?=some (.map es clock)∧MpOk (V w m) kt es.toList clock q st r
structure St (w:World) (m:Mp) (H:Nat→ABlk):Prop where
 inj:∀ r r',(m.L r).isLive→(m.L r').isLive→m.ρ r=m.ρ r'→r=r'
 notI:∀ r,(m.L r).isLive→¬ m.I (m.ρ r)
 lt:∀ r,(m.L r).isLive→m.ρ r<w.heap.size
 Ilt:∀ b,m.I b→b<w.heap.size
 gl:Gl w m.I
 blk:∀ r,BlkOk w m (m.L r) (m.ρ r) (H r)
theorem BlkOk.mono {w w':World} {m m':Mp} {l:Inf} {g:Nat} {b:ABlk} (hb:w'.heap[g]?=w.heap[g]?) (hV:∀ a u,V w m a u→V w' m' a u) (h:BlkOk w m l g b):BlkOk w' m' l g b:=by
 cases b with
 | absent=>exact h
 | dead=>exact h
 | box ty cs =>
  obtain⟨hl,c,h1,h2,h3⟩:=h
  exact⟨hl,c,hb.trans h1,h2,fun j hj=>let ⟨u,a,b⟩:=h3 j hj;⟨u,a,hV _ _ b⟩⟩
 | arr ty sz ver n f =>
  rcases h with h|⟨cap,c,hl,h0,h00,h1,h2,h3⟩
  ·exact .inl h
  exact .inr ⟨cap,c,hl,h0,h00,hb.trans h1,h2,fun i hi=>⟨(h3 i hi).1,fun j hj=>let ⟨u,a,b⟩:=(h3 i hi).2 j hj;⟨u,a,hV _ _ b⟩⟩⟩
 | lp s env N ps asg bd =>
  obtain⟨hl,p,fn,tmps,D,h1,h2,h3,h4⟩:=h
  exact⟨hl,p,fn,tmps,D,hb.trans h1,h2,h3,fun d=>hV _ _ (h4 d)⟩
 | mp kt q st =>
  obtain⟨hl,es,clock,r,h1,h2⟩:=h
  exact⟨hl,es,clock,r,hb.trans h1,h2.mono fun _ a u _=>hV a u⟩
theorem Tr.drew (w:World) (m:Mp):Tr w m w.drew m :=
 ⟨rfl,rfl,rfl,Nat.le_refl _,fun _ _ _=>rfl,fun _ h=>h,fun _ _=>rfl,fun _ h=>.inl h,fun _=>Inf.step_refl _ _ rfl,fun _ h=>.inl ⟨h,rfl⟩⟩
theorem St.drew {w:World} {m:Mp} {H:Nat→ABlk} (h:St w m H):St w.drew m H :=
 ⟨h.inj,h.notI,h.lt,h.Ilt,Gl.mono (w:=w) (w':=w.drew) (fun _ h=>h) (fun _ _=>rfl) h.gl,fun r=>BlkOk.mono (w:=w) (m:=m) rfl (fun _ _ hv=>hv.mono (Tr.drew w m)) (h.blk r)⟩
def upd (H:Nat→ABlk) (r:Nat) (b:ABlk):Nat→ABlk:=fun k=>if k=r then b else H k
def Mp.set (m:Mp) (r g:Nat) (l:Inf):Mp:={ m with ρ:=fun k=>if k=r then g else m.ρ k,L:=fun k=>if k=r then l else m.L k }
theorem heap_alloc (w:World) (o:Obj) (b:Nat) (h:b<w.heap.size):(w.alloc o).heap[b]?=w.heap[b]?:=by
 show (w.heap.push o)[b]?=_
 rw [Array.getElem?_push,if_neg (by omega)]
theorem Tr.alloc (w:World) (m:Mp) (o:Obj) (r:Nat) (l:Inf) (hr:m.L r=.absent) (hI:∀ b,m.I b→b<w.heap.size):Tr w m (w.alloc o) (m.set r w.heap.size l) where
 os:=rfl
 tape:=rfl
 output:=rfl
 size:=by simp
 out:=fun b hb _=>heap_alloc w o b hb
 imm:=fun _ h=>h
 same:=fun b hb=>heap_alloc w o b (hI b hb)
 newI:=fun _ h=>.inl h
 step:=fun k=>by
  simp only [Mp.set]
  by_cases hk:k=r
  ·subst hk;rw [hr];trivial
  ·simp only [hk,if_false];exact Inf.step_refl _ _ trivial
 newρ:=fun k hk=>by
  simp only [Mp.set] at hk ⊢
  by_cases hk':k=r
  ·subst hk';simp
  ·simp only [hk',if_false] at hk ⊢;exact .inl ⟨hk,trivial⟩
theorem St.absent {w:World} {m:Mp} {H:Nat→ABlk} (h:St w m H) {r:Nat} (hr:H r=.absent):m.L r=.absent:=by
 have:=h.blk r
 rw [hr] at this
 exact this
theorem BlkOk.nolive {w w':World} {m m':Mp} {l:Inf} {g g':Nat} {b:ABlk} (h:BlkOk w m l g b) (hl:¬ l.isLive):BlkOk w' m' l g' b:=by
 cases b with
 | absent=>exact h
 | dead=>exact h
 | box ty cs=>rw [h.1] at hl;exact absurd trivial hl
 | arr ty sz ver n f =>
  rcases h with h|⟨cap,c,hl',_⟩
  ·exact .inl h
  ·rw [hl'] at hl;exact absurd trivial hl
 | lp s env N ps asg bd=>rw [h.1] at hl;exact absurd trivial hl
 | mp kt q st=>rw [h.1] at hl;exact absurd trivial hl
theorem St.alloc {w:World} {m:Mp} {H:Nat→ABlk} (h:St w m H) (o:Obj) (r:Nat) (l:Inf) (hr:H r=.absent) (b:ABlk)
  (hb:BlkOk (w.alloc o) (m.set r w.heap.size l) l w.heap.size b):St (w.alloc o) (m.set r w.heap.size l) (upd H r b):=by
 have hT:=Tr.alloc w m o r l (h.absent hr) h.Ilt
 refine⟨fun r1 r2 h1 h2 e=>?_,fun r1 h1=>?_,fun r1 h1=>?_,fun b hb=>?_,h.gl.mono hT.imm hT.same,fun r1=>?_⟩
 ·simp only [Mp.set] at h1 h2 e
  by_cases e1:r1=r<;>by_cases e2:r2=r
  ·rw [e1,e2]
  ·simp only [e1,e2,if_true,if_false] at h1 h2 e
   have:=h.lt r2 h2;omega
  ·simp only [e1,e2,if_true,if_false] at h1 h2 e
   have:=h.lt r1 h1;omega
  ·simp only [e1,e2,if_false] at h1 h2 e
   exact h.inj r1 r2 h1 h2 e
 ·simp only [Mp.set] at h1 ⊢
  by_cases e1:r1=r
  ·simp only [e1,if_true];intro hI;have:=h.Ilt _ hI;omega
  ·simp only [e1,if_false] at h1 ⊢;exact h.notI r1 h1
 ·simp only [Mp.set] at h1 ⊢
  by_cases e1:r1=r
  ·simp [e1]
  ·simp only [e1,if_false] at h1 ⊢;have:=h.lt r1 h1;simp;omega
 ·have:=h.Ilt b hb;simp;omega
 ·by_cases e1:r1=r
  ·simp only [Mp.set,upd,e1,if_true];exact hb
  ·have hk:=h.blk r1
   have e:BlkOk (w.alloc o) (m.set r w.heap.size l) (m.L r1) (m.ρ r1) (H r1):=by
    by_cases hl:(m.L r1).isLive
    ·exact hk.mono (heap_alloc w o _ (h.lt r1 hl)) (fun _ _ hv=>hv.mono hT)
    ·exact hk.nolive hl
   simp only [Mp.set,upd,e1,if_false]
   exact e
theorem heap_setRow_ne (w:World) (g:Nat) (c:Array Value) (b:Nat) (h:b≠g):(w.setRow g c).heap[b]?=w.heap[b]?:=by
 simp only [World.setRow,Array.getElem?_modify]
 rw [if_neg (fun e=>h e.symm)]
theorem size_setRow (w:World) (g:Nat) (c:Array Value):(w.setRow g c).heap.size=w.heap.size:=by simp [World.setRow]
theorem Tr.setRow {w:World} {m:Mp} {H:Nat→ABlk} (h:St w m H) (r:Nat) (hr:(m.L r).isLive) (c:Array Value):Tr w m (w.setRow (m.ρ r) c) m where
 os:=rfl
 tape:=rfl
 output:=rfl
 size:=by rw [size_setRow];exact Nat.le_refl _
 out:=fun b _ hn=>heap_setRow_ne w _ c b (fun e=>hn r hr e.symm)
 imm:=fun _ h=>h
 same:=fun b hb=>heap_setRow_ne w _ c b (fun e=>h.notI r hr (e▸hb))
 newI:=fun _ h=>.inl h
 step:=fun k=>Inf.step_refl _ _ rfl
 newρ:=fun k hk=>.inl ⟨hk,rfl⟩
theorem St.setRow {w:World} {m:Mp} {H:Nat→ABlk} (h:St w m H) (r:Nat) (hr:(m.L r).isLive) (c:Array Value) (b:ABlk)
  (hb:BlkOk (w.setRow (m.ρ r) c) m (m.L r) (m.ρ r) b):St (w.setRow (m.ρ r) c) m (upd H r b):=by
 have hT:=Tr.setRow h r hr c
 refine⟨h.inj,h.notI,fun k hk=>by rw [size_setRow];exact h.lt k hk,fun b hb=>by rw [size_setRow];exact h.Ilt b hb,h.gl.mono hT.imm hT.same,fun k=>?_⟩
 by_cases e:k=r
 ·subst e;simp only [upd,if_true];exact hb
 ·simp only [upd,e,if_false]
  have hk:=h.blk k
  by_cases hl:(m.L k).isLive
  ·exact hk.mono (heap_setRow_ne w _ c _ (fun e'=>e (h.inj k r hl hr e'))) (fun _ _ hv=>hv.mono hT)
  ·exact hk.nolive hl
theorem Tr.putObj {w:World} {m:Mp} {H:Nat→ABlk} (h:St w m H) (r:Nat) (hr:(m.L r).isLive) (o:Obj):Tr w m (w.putObj (m.ρ r) o) m where
 os:=rfl
 tape:=rfl
 output:=rfl
 size:=by simp
 out:=fun b _ hn=>World.putObj_heap_other (fun e=>hn r hr e.symm)
 imm:=fun _ h=>h
 same:=fun b hb=>World.putObj_heap_other (fun e=>h.notI r hr (e▸hb))
 newI:=fun _ h=>.inl h
 step:=fun k=>Inf.step_refl _ _ rfl
 newρ:=fun k hk=>.inl ⟨hk,rfl⟩
theorem St.putObj {w:World} {m:Mp} {H:Nat→ABlk} (h:St w m H) (r:Nat) (hr:(m.L r).isLive) (o:Obj) (b:ABlk)
  (hb:BlkOk (w.putObj (m.ρ r) o) m (m.L r) (m.ρ r) b):St (w.putObj (m.ρ r) o) m (upd H r b):=by
 have hT:=Tr.putObj h r hr o
 refine⟨h.inj,h.notI,fun k hk=>by simpa using h.lt k hk,fun b hb=>by simpa using h.Ilt b hb,h.gl.mono hT.imm hT.same,fun k=>?_⟩
 by_cases e:k=r
 ·subst e;simp only [upd,if_true];exact hb
 ·simp only [upd,e,if_false]
  have hk:=h.blk k
  by_cases hl:(m.L k).isLive
  ·exact hk.mono (World.putObj_heap_other (fun e'=>e (h.inj k r hl hr e'))) (fun _ _ hv=>hv.mono hT)
  ·exact hk.nolive hl
theorem V.aside {w:World} {m:Mp} (D:Nat) (hD:¬ m.I D) (o:Obj) {a:AV} {u:Value} (h:V w m a u):V (w.putObj D o) m a u:=by
 have hs:∀ b,m.I b→(w.putObj D o).heap[b]?=w.heap[b]?:=fun b hb=>World.putObj_heap_other (fun e=>hD (e▸hb))
 induction h with
 | p v u h=>exact .p v u (h.mono (fun _ h=>h) hs)
 | ptr r ver n i off sz cap h hi=>exact .ptr r ver n i off sz cap h hi
 | ptrOld r ver n i off b o h=>exact .ptrOld r ver n i off b o h
 | slr r ver off n N sz cap h hn=>exact .slr r ver off n N sz cap h hn
 | slrNil r ver a h=>exact .slrNil r ver a h
 | slrEnd r ver N sz cap a h=>exact .slrEnd r ver N sz cap a h
 | slrOld r ver off n ad c h=>exact .slrOld r ver off n ad c h
 | rop cs off b o u hb hc hv =>
  refine .rop cs off b o u hb (fun j hj=>?_) (fun j hj=>(hv j hj).mono (fun _ h=>h) hs)
  rw [← hc j hj]
  simp [World.cell?,hs b hb]
 | fn f first cap A B hA hB h1 h2 ih1 ih2=>exact .fn f first cap A B hA hB ih1 ih2
 | iface t v u h ih=>exact .iface t v u ih
 | agg cs A hA h ih=>exact .agg cs A hA ih
 | tup cs A hA h ih=>exact .tup cs A hA ih
 | yld r sz cap h=>exact .yld r sz cap h
 | yldOld r b h=>exact .yldOld r b h
 | mref r sz cap h=>exact .mref r sz cap h
 | mrefOld r b h=>exact .mrefOld r b h
 | junk u=>exact .junk u
theorem St.aside {w:World} {m:Mp} {H:Nat→ABlk} (h:St w m H) (D:Nat) (hD:¬ m.I D) (hO:∀ r,(m.L r).isLive→m.ρ r≠D) (o:Obj):St (w.putObj D o) m H:=by
 have hs:∀ b,m.I b→(w.putObj D o).heap[b]?=w.heap[b]?:=fun b hb=>World.putObj_heap_other (fun e=>hD (e▸hb))
 refine⟨h.inj,h.notI,fun k hk=>by simpa using h.lt k hk,fun b hb=>by simpa using h.Ilt b hb,h.gl.mono (fun _ h=>h) hs,fun k=>?_⟩
 have hk:=h.blk k
 by_cases hl:(m.L k).isLive
 ·exact hk.mono (World.putObj_heap_other (hO k hl)) (fun _ _ hv=>hv.aside D hD o)
 ·exact hk.nolive hl
theorem Tr.aside {we w:World} {me m:Mp} (h:Tr we me w m) (D:Nat) (hW:we.heap.size≤D) (hm:∀ b,me.I b→b<we.heap.size) (o:Obj):Tr we me (w.putObj D o) m where
 os:=h.os
 tape:=h.tape
 output:=h.output
 size:=by simpa using h.size
 out:=fun b hb hn=>(World.putObj_heap_other (by omega)).trans (h.out b hb hn)
 imm:=h.imm
 same:=fun b hb=>(World.putObj_heap_other (by have:=hm b hb;omega)).trans (h.same b hb)
 newI:=h.newI
 step:=h.step
 newρ:=h.newρ
theorem Tr.grow {w w':World} {m:Mp} {H:Nat→ABlk} (h:St w m H) (r g':Nat) (l':Inf) (hr:(m.L r).isLive) (hg:w.grownBy w' (some (m.ρ r)))
  (hs:(m.L r).step l' (g'=m.ρ r)) (hg':g'=m.ρ r∨w.heap.size≤g'):Tr w m w' (m.set r g' l') where
 os:=hg.os
 tape:=hg.tape
 output:=hg.output
 size:=hg.size
 out:=fun b hb hn=>hg.block b hb (fun e=>hn r hr (by injection e with e;exact e.symm))
 imm:=fun _ h=>h
 same:=fun b hb=>hg.block b (h.Ilt b hb) (fun e=>h.notI r hr (by injection e with e;exact e▸hb))
 newI:=fun _ h=>.inl h
 step:=fun k=>by
  simp only [Mp.set]
  by_cases hk:k=r
  ·subst hk;simp only [if_true];exact hs
  ·simp only [hk,if_false];exact Inf.step_refl _ _ trivial
 newρ:=fun k hk=>by
  simp only [Mp.set] at hk ⊢
  by_cases hk':k=r
  ·subst hk';simp only [if_true] at hk ⊢
   rcases hg' with e|e
   ·exact .inl ⟨hr,e⟩
   ·exact .inr e
  ·simp only [hk',if_false] at hk ⊢;exact .inl ⟨hk,trivial⟩
theorem St.grow {w w':World} {m:Mp} {H:Nat→ABlk} (h:St w m H) (r g':Nat) (l':Inf) (hr:(m.L r).isLive) (hg:w.grownBy w' (some (m.ρ r)))
  (hs:(m.L r).step l' (g'=m.ρ r)) (hg':g'=m.ρ r∨w.heap.size≤g') (hlt:g'<w'.heap.size) (b:ABlk) (hb:BlkOk w' (m.set r g' l') l' g' b):St w' (m.set r g' l') (upd H r b):=by
 have hT:=Tr.grow h r g' l' hr hg hs hg'
 refine⟨fun r1 r2 h1 h2 e=>?_,fun r1 h1=>?_,fun r1 h1=>?_,fun b hb=>?_,h.gl.mono hT.imm hT.same,fun r1=>?_⟩
 ·simp only [Mp.set] at h1 h2 e
  by_cases e1:r1=r<;>by_cases e2:r2=r
  ·rw [e1,e2]
  ·simp only [e1,e2,if_true,if_false] at h1 h2 e
   rcases hg' with hg'|hg'
   ·exact absurd (h.inj r r2 hr h2 (hg'▸e)).symm e2
   ·have:=h.lt r2 h2;omega
  ·simp only [e1,e2,if_true,if_false] at h1 h2 e
   rcases hg' with hg'|hg'
   ·exact absurd (h.inj r1 r h1 hr (hg'▸e)) e1
   ·have:=h.lt r1 h1;omega
  ·simp only [e1,e2,if_false] at h1 h2 e
   exact h.inj r1 r2 h1 h2 e
 ·simp only [Mp.set] at h1 ⊢
  by_cases e1:r1=r
  ·simp only [e1,if_true];intro hI
   rcases hg' with hg'|hg'
   ·exact h.notI r hr (hg'▸hI)
   ·have:=h.Ilt _ hI;omega
  ·simp only [e1,if_false] at h1 ⊢;exact h.notI r1 h1
 ·simp only [Mp.set] at h1 ⊢
  by_cases e1:r1=r
  ·simp only [e1,if_true];exact hlt
  ·simp only [e1,if_false] at h1 ⊢;exact Nat.lt_of_lt_of_le (h.lt r1 h1) hg.size
 ·exact Nat.lt_of_lt_of_le (h.Ilt b hb) hg.size
 ·by_cases e1:r1=r
  ·simp only [Mp.set,upd,e1,if_true];exact hb
  ·have hk:=h.blk r1
   simp only [Mp.set,upd,e1,if_false]
   show BlkOk w' (m.set r g' l') _ _ _
   by_cases hl:(m.L r1).isLive
   ·exact hk.mono (hg.block _ (h.lt r1 hl) (fun e=>e1 (h.inj r1 r hl hr (by injection e)))) (fun _ _ hv=>hv.mono hT)
   ·exact hk.nolive hl
theorem Tr.fresh {w w':World} {m:Mp} {H:Nat→ABlk} (h:St w m H) (r g':Nat) (l':Inf) (hst:(m.L r).step l' False) (hg:w.grownBy w' none) (hg':w.heap.size≤g'):Tr w m w' (m.set r g' l') where
 os:=hg.os
 tape:=hg.tape
 output:=hg.output
 size:=hg.size
 out:=fun b hb _=>hg.block b hb (by simp)
 imm:=fun _ h=>h
 same:=fun b hb=>hg.block b (h.Ilt b hb) (by simp)
 newI:=fun _ h=>.inl h
 step:=fun k=>by
  simp only [Mp.set]
  by_cases hk:k=r
  ·subst hk;simp only [if_true];exact Inf.step_imp (fun x=>x.elim) hst
  ·simp only [hk,if_false];exact Inf.step_refl _ _ trivial
 newρ:=fun k hk=>by
  simp only [Mp.set] at hk ⊢
  by_cases hk':k=r
  ·subst hk';simp only [if_true];exact .inr hg'
  ·simp only [hk',if_false] at hk ⊢;exact .inl ⟨hk,trivial⟩
theorem St.fresh {w w':World} {m:Mp} {H:Nat→ABlk} (h:St w m H) (r g':Nat) (l':Inf) (hst:(m.L r).step l' False) (hg:w.grownBy w' none) (hg':w.heap.size≤g') (hlt:g'<w'.heap.size)
  (b:ABlk) (hb:BlkOk w' (m.set r g' l') l' g' b):St w' (m.set r g' l') (upd H r b):=by
 have hT:=Tr.fresh h r g' l' hst hg hg'
 refine⟨fun r1 r2 h1 h2 e=>?_,fun r1 h1=>?_,fun r1 h1=>?_,fun b hb=>?_,h.gl.mono hT.imm hT.same,fun r1=>?_⟩
 ·simp only [Mp.set] at h1 h2 e
  by_cases e1:r1=r<;>by_cases e2:r2=r
  ·rw [e1,e2]
  ·simp only [e1,e2,if_true,if_false] at h1 h2 e
   have:=h.lt r2 h2;omega
  ·simp only [e1,e2,if_true,if_false] at h1 h2 e
   have:=h.lt r1 h1;omega
  ·simp only [e1,e2,if_false] at h1 h2 e
   exact h.inj r1 r2 h1 h2 e
 ·simp only [Mp.set] at h1 ⊢
  by_cases e1:r1=r
  ·simp only [e1,if_true];intro hI;have:=h.Ilt _ hI;omega
  ·simp only [e1,if_false] at h1 ⊢;exact h.notI r1 h1
 ·simp only [Mp.set] at h1 ⊢
  by_cases e1:r1=r
  ·simp only [e1,if_true];exact hlt
  ·simp only [e1,if_false] at h1 ⊢;exact Nat.lt_of_lt_of_le (h.lt r1 h1) hg.size
 ·exact Nat.lt_of_lt_of_le (h.Ilt b hb) hg.size
 ·by_cases e1:r1=r
  ·simp only [Mp.set,upd,e1,if_true];exact hb
  ·have hk:=h.blk r1
   simp only [Mp.set,upd,e1,if_false]
   show BlkOk w' (m.set r g' l') _ _ _
   by_cases hl:(m.L r1).isLive
   ·exact hk.mono (hg.block _ (h.lt r1 hl) (by simp)) (fun _ _ hv=>hv.mono hT)
   ·exact hk.nolive hl
def Mp.freeze (m:Mp) (r:Nat):Mp:={ m with I:=fun b=>m.I b∨b=m.ρ r,L:=fun k=>if k=r then .dead else m.L k }
theorem Tr.freeze {w:World} {m:Mp} (r:Nat) (hr:(m.L r).isLive):Tr w m w (m.freeze r) where
 os:=rfl
 tape:=rfl
 output:=rfl
 size:=Nat.le_refl _
 out:=fun _ _ _=>rfl
 imm:=fun _ h=>.inl h
 same:=fun _ _=>rfl
 newI:=fun b h=>by
  rcases h with h|h
  ·exact .inl h
  ·exact .inr (.inl ⟨r,hr,h.symm⟩)
 step:=fun k=>by
  simp only [Mp.freeze]
  by_cases hk:k=r
  ·subst hk;simp only [if_true]
   cases hL:m.L k with
   | absent=>trivial
   | dead=>rfl
   | nil=>exact .inl rfl
   | live=>exact .inl rfl
  ·simp only [hk,if_false];exact Inf.step_refl _ _ trivial
 newρ:=fun k hk=>by
  simp only [Mp.freeze] at hk ⊢
  by_cases hk':k=r
  ·subst hk';simp [Inf.isLive] at hk
  ·simp only [hk',if_false] at hk;exact .inl ⟨hk,trivial⟩
theorem St.freeze {w:World} {m:Mp} {H:Nat→ABlk} (h:St w m H) (r:Nat) (hr:(m.L r).isLive):St w (m.freeze r) (upd H r .dead):=by
 have hT:=Tr.freeze (w:=w) r hr
 have hlive:∀ k,((m.freeze r).L k).isLive→k≠r∧(m.L k).isLive:=fun k hk=>by
  simp only [Mp.freeze] at hk
  by_cases e:k=r
  ·subst e;simp [Inf.isLive] at hk
  ·simp only [e,if_false] at hk;exact⟨e,hk⟩
 refine⟨fun r1 r2 h1 h2 e=>h.inj r1 r2 (hlive _ h1).2 (hlive _ h2).2 e,fun r1 h1 hI=>?_,fun r1 h1=>h.lt r1 (hlive _ h1).2,fun b hb=>?_,h.gl.mono hT.imm hT.same,fun k=>?_⟩
 ·rcases hI with hI|hI
  ·exact h.notI r1 (hlive _ h1).2 hI
  ·exact (hlive _ h1).1 (h.inj r1 r (hlive _ h1).2 hr hI)
 ·rcases hb with hb|hb
  ·exact h.Ilt b hb
  ·rw [hb];exact h.lt r hr
 ·by_cases e:k=r
  ·subst e;simp [upd,Mp.freeze,BlkOk]
  ·simp only [upd,Mp.freeze,e,if_false]
   exact (h.blk k).mono rfl (fun _ _ hv=>hv.mono hT)
def Mp.cut (m:Mp) (k:Nat):Mp:={ m with L:=fun r=>if r<k then m.L r else .absent }
mutual
def AV.cl (k:Nat):AV→Bool
 | .p _ | .rop _ _ | .junk=>true
 | .ptr r _ _ _ _=>Nat.blt r k
 | .slr r _ _ _=>Nat.blt r k
 | .yld r=>Nat.blt r k
 | .mref r=>Nat.blt r k
 | .fn _ a b=>AV.cls k a&&AV.cls k b
 | .iface _ v=>AV.cl k v
 | .agg l=>AV.cls k l
 | .tup l=>AV.cls k l
def AV.cls (k:Nat):List AV→Bool
 | []=>true
 | a::l=>AV.cl k a&&AV.cls k l
end
theorem AV.cls_get {k:Nat} {l:List AV} (h:AV.cls k l=true):∀ j (hj:j<l.length),AV.cl k l[j]=true:=by
 induction l with
 | nil=>intro j hj;simp at hj
 | cons a l ih =>
  simp only [AV.cls,Bool.and_eq_true] at h
  intro j hj
  cases j with
  | zero=>exact h.1
  | succ j=>exact ih h.2 j (by simpa using hj)
theorem V.cut {w:World} {m:Mp} {a:AV} {u:Value} (h:V w m a u) (k:Nat) (hc:a.cl k=true):V w (m.cut k) a u:=by
 induction h with
 | p v u h=>exact .p v u h
 | ptr r ver n i off sz cap h hi =>
  have hr:r<k:=by simpa [AV.cl] using hc
  exact .ptr (m:=m.cut k) r ver n i off sz cap (by simp [Mp.cut,hr,h]) hi
 | ptrOld r ver n i off b o h =>
  have hr:r<k:=by simpa [AV.cl] using hc
  exact .ptrOld (m:=m.cut k) r ver n i off b o (by simpa [Mp.cut,hr] using h)
 | slr r ver off n N sz cap h hn =>
  have hr:r<k:=by simpa [AV.cl] using hc
  exact .slr (m:=m.cut k) r ver off n N sz cap (by simp [Mp.cut,hr,h]) hn
 | slrNil r ver a h =>
  have hr:r<k:=by simpa [AV.cl] using hc
  exact .slrNil (m:=m.cut k) r ver a (by simp [Mp.cut,hr,h])
 | slrEnd r ver N sz cap a h =>
  have hr:r<k:=by simpa [AV.cl] using hc
  exact .slrEnd (m:=m.cut k) r ver N sz cap a (by simp [Mp.cut,hr,h])
 | slrOld r ver off n ad c h =>
  have hr:r<k:=by simpa [AV.cl] using hc
  exact .slrOld (m:=m.cut k) r ver off n ad c (by simpa [Mp.cut,hr] using h)
 | rop cs off b o u hb h1 h2=>exact .rop (m:=m.cut k) cs off b o u hb h1 h2
 | fn f first cap A B hA hB h1 h2 ih1 ih2 =>
  simp only [AV.cl,Bool.and_eq_true] at hc
  exact .fn f first cap A B hA hB (fun j hj hj'=>ih1 j hj hj' (AV.cls_get hc.1 j hj)) (fun j hj hj'=>ih2 j hj hj' (AV.cls_get hc.2 j hj))
 | iface t v u h ih=>exact .iface t v u (ih hc)
 | agg cs A hA h ih=>exact .agg cs A hA (fun j hj hj'=>ih j hj hj' (AV.cls_get hc j hj))
 | tup cs A hA h ih=>exact .tup cs A hA (fun j hj hj'=>ih j hj hj' (AV.cls_get hc j hj))
 | yld r sz cap h =>
  have hr:r<k:=by simpa [AV.cl] using hc
  exact .yld (m:=m.cut k) r sz cap (by simp [Mp.cut,hr,h])
 | yldOld r b h =>
  have hr:r<k:=by simpa [AV.cl] using hc
  exact .yldOld (m:=m.cut k) r b (by simpa [Mp.cut,hr] using h)
 | mref r sz cap h =>
  have hr:r<k:=by simpa [AV.cl] using hc
  exact .mref (m:=m.cut k) r sz cap (by simp [Mp.cut,hr,h])
 | mrefOld r b h =>
  have hr:r<k:=by simpa [AV.cl] using hc
  exact .mrefOld (m:=m.cut k) r b (by simpa [Mp.cut,hr] using h)
 | junk u=>exact .junk u
def clE (k:Nat):List (Nat×AV)→Bool
 | []=>true
 | (_,v)::l=>AV.cl k v&&clE k l
theorem clE_look {k:Nat} {l:List (Nat×AV)} (h:clE k l=true) (d:Nat):(look l d).cl k=true:=by
 induction l with
 | nil=>rfl
 | cons x l ih =>
  obtain⟨j,v⟩:=x
  simp only [clE,Bool.and_eq_true] at h
  simp only [look]
  split
  ·exact h.1
  ·exact ih h.2
def ABlk.cl (k:Nat):ABlk→Prop
 | .box _ cs=>AV.cls k cs=true
 | .arr _ _ _ n f=>∀ i,i<n→AV.cls k (f i)=true
 | .lp _ env _ _ _ _=>clE k env=true
 | .mp _ q _=>∀ κ a,q κ=some a→AV.cl k a=true
 | _=>True
theorem St.cut {w:World} {m:Mp} {H:Nat→ABlk} (h:St w m H) (k:Nat) (hc:∀ r,r<k→(H r).cl k):St w (m.cut k) (fun r=>if r<k then H r else .absent):=by
 have hlive:∀ r,((m.cut k).L r).isLive→(m.L r).isLive:=fun r hr=>by
  simp only [Mp.cut] at hr
  by_cases e:r<k
  ·simpa [e] using hr
  ·simp [e,Inf.isLive] at hr
 refine⟨fun r1 r2 h1 h2 e=>h.inj r1 r2 (hlive _ h1) (hlive _ h2) e,fun r1 h1=>h.notI r1 (hlive _ h1),fun r1 h1=>h.lt r1 (hlive _ h1),h.Ilt,h.gl,fun r=>?_⟩
 by_cases e:r<k
 ·simp only [Mp.cut,e,if_true]
  show BlkOk w (m.cut k) (m.L r) (m.ρ r) (H r)
  have hb:=h.blk r
  have hcl:=hc r e
  cases hH:H r with
  | absent=>rw [hH] at hb;exact hb
  | dead=>rw [hH] at hb;exact hb
  | box ty cs =>
   rw [hH] at hb hcl
   obtain⟨hl,c,h1,h2,h3⟩:=hb
   exact⟨hl,c,h1,h2,fun j hj=>let ⟨u,a,b⟩:=h3 j hj;⟨u,a,b.cut k (AV.cls_get hcl j hj)⟩⟩
  | arr ty sz ver n f =>
   rw [hH] at hb hcl
   rcases hb with hb|⟨cap,c,hl,h0,h00,h1,h2,h3⟩
   ·exact .inl hb
   exact .inr ⟨cap,c,hl,h0,h00,h1,h2,fun i hi=>⟨(h3 i hi).1,fun j hj=>let ⟨u,a,b⟩:=(h3 i hi).2 j hj;⟨u,a,b.cut k (AV.cls_get (hcl i hi) j hj)⟩⟩⟩
  | lp s env N ps asg bd =>
   rw [hH] at hb hcl
   obtain⟨hl,p,fn,tmps,D,h1,h2,h3,h4⟩:=hb
   exact⟨hl,p,fn,tmps,D,h1,h2,h3,fun d=>(h4 d).cut k (clE_look hcl d)⟩
  | mp kt q st =>
   rw [hH] at hb hcl
   obtain⟨hl,es,clock,r2,h1,h2⟩:=hb
   exact⟨hl,es,clock,r2,h1,h2.mono fun κ a u hg hv=>hv.cut k (hcl κ a hg)⟩
 ·simp only [Mp.cut,e,if_false]
  rfl
theorem Tr.cut {w w':World} {m m':Mp} (h:Tr w m w' m') (k:Nat) (hk:∀ r,k≤r→m.L r=.absent):Tr w m w' (m'.cut k) where
 os:=h.os
 tape:=h.tape
 output:=h.output
 size:=h.size
 out:=h.out
 imm:=h.imm
 same:=h.same
 newI:=h.newI
 step:=fun r=>by
  by_cases e:r<k
  ·simp only [Mp.cut,e,if_true];exact h.step r
  ·rw [hk r (by omega)];trivial
 newρ:=fun r hr=>by
  by_cases e:r<k
  ·simp only [Mp.cut,e,if_true] at hr ⊢;exact h.newρ r hr
  ·simp [Mp.cut,e,Inf.isLive] at hr
end Go.AE
namespace Go.AE
def nth {α:Type}:List α→Nat→Option α
 | [],_=>none
 | a::l,n=>match n with
  | 0=>some a
  | k+1=>nth l k
def setN {α:Type}:List α→Nat→α→List α
 | [],_,_=>[]
 | a::l,n,v=>match n with
  | 0=>v::l
  | k+1=>a::setN l k v
def len {α:Type}:List α→Nat
 | []=>0
 | _::l=>len l+1
def snoc {α:Type}:List α→α→List α
 | [],b=>[b]
 | a::l,b=>a::snoc l b
def dropN {α:Type}:List α→Nat→List α
 | l,0=>l
 | [],_+1=>[]
 | _::l,k+1=>dropN l k
def takeN {α:Type}:List α→Nat→List α
 | _,0=>[]
 | [],_+1=>[]
 | a::l,k+1=>a::takeN l k
def putCells {α:Type} (cs:List α) (off:Nat):List α→List α
 | []=>cs
 | v::r=>putCells (setN cs off v) (off+1) r
def putC {α:Type} (n:Nat) (cs:List α) (off:Nat) (l:List α):List α:=match Nat.beq (len l) n with
 | true=>l
 | false=>putCells cs off l
def putD {α:Type} (sz:Nat) (cs:List α) (off:Nat) (l:List α):List α:=match Nat.beq sz 1 with
 | true=>putCells cs off l
 | false=>putC (len cs) cs off l
def catL {α:Type}:List α→List α→List α
 | [],l=>l
 | a::k,l=>a::catL k l
noncomputable def fLs {α:Type} (a:α) (_:List α) (ih:(List α→Prop)→Prop) (k:List α→Prop):Prop:=ih fun r'=>k (a::r')
noncomputable def fL {α:Type} (l:List α):(List α→Prop)→Prop:=List.rec (motive:=fun _=>(List α→Prop)→Prop) (fun k=>k []) fLs l
theorem fL_cons {α:Type} (a:α) (r:List α) (k:List α→Prop):fL (a::r) k=fL r fun r'=>k (a::r'):=rfl
def fV (a:AV) (k:AV→Prop):Prop :=
 match a with
 | .p v=>match v with
  | .int q n=>k (.p (.int q n))
  | .bool b=>k (.p (.bool b))
  | .str l=>k (.p (.str l))
  | .nilp=>k (.p .nilp)
  | .nils=>k (.p .nils)
  | .nilf=>k (.p .nilf)
  | .nili=>k (.p .nili)
  | .nilm=>k (.p .nilm)
  | .fn f=>k (.p (.fn f))
  | .sl sz n f=>k (.p (.sl sz n f))
  | .mp kt g=>k (.p (.mp kt g))
 | .ptr r ver n i off=>k (.ptr r ver n i off)
 | .rop cs off=>k (.rop cs off)
 | .slr r ver off n=>k (.slr r ver off n)
 | .fn f a b=>k (.fn f a b)
 | .iface t v=>k (.iface t v)
 | .agg cs=>k (.agg cs)
 | .tup vs=>k (.tup vs)
 | .yld r=>k (.yld r)
 | .mref r=>k (.mref r)
 | .junk=>k .junk
noncomputable def fVLs (a:AV) (_:List AV) (ih:(List AV→Prop)→Prop) (k:List AV→Prop):Prop:=fV a fun a'=>ih fun r'=>k (a'::r')
noncomputable def fVL (l:List AV):(List AV→Prop)→Prop:=List.rec (motive:=fun _=>(List AV→Prop)→Prop) (fun k=>k []) fVLs l
theorem fVL_cons (a:AV) (r:List AV) (k:List AV→Prop):fVL (a::r) k=fV a fun a'=>fVL r fun r'=>k (a'::r'):=rfl
noncomputable def fB (b:ABlk) (k:ABlk→Prop):Prop :=
 match b with
 | .absent=>k .absent
 | .dead=>k .dead
 | .box ty cs=>fVL cs fun cs'=>k (.box ty cs')
 | .arr ty sz ver n f=>k (.arr ty sz ver n f)
 | .lp s env N ps a b=>k (.lp s env N ps a b)
 | .mp kt g st=>k (.mp kt g st)
noncomputable def fKs (b:ABlk) (_:List ABlk) (ih:(List ABlk→Prop)→Prop) (k:List ABlk→Prop):Prop:=fB b fun b'=>ih fun r'=>k (b'::r')
noncomputable def fK (l:List ABlk):(List ABlk→Prop)→Prop:=List.rec (motive:=fun _=>(List ABlk→Prop)→Prop) (fun k=>k []) fKs l
theorem fK_cons (b:ABlk) (r:List ABlk) (k:List ABlk→Prop):fK (b::r) k=fB b fun b'=>fK r fun r'=>k (b'::r'):=rfl
theorem fL_eq {α:Type} (l:List α) (k:List α→Prop):fL l k=k l:=by
 induction l generalizing k with
 | nil=>rfl
 | cons a l ih=>rw [fL_cons,ih]
theorem fV_eq (a:AV) (k:AV→Prop):fV a k=k a:=by
 cases a<;>first|rfl|(rename_i v;cases v<;>rfl)
theorem fVL_eq (l:List AV) (k:List AV→Prop):fVL l k=k l:=by
 induction l generalizing k with
 | nil=>rfl
 | cons a l ih=>simp only [fVL_cons,fV_eq,ih]
theorem fB_eq (b:ABlk) (k:ABlk→Prop):fB b k=k b:=by
 cases b<;>simp only [fB,fVL_eq]
theorem fK_eq (l:List ABlk) (k:List ABlk→Prop):fK l k=k l:=by
 induction l generalizing k with
 | nil=>rfl
 | cons a l ih=>simp only [fK_cons,fB_eq,ih]
structure Chk (c:Prop) (k:Prop):Prop where
 h:c
 k:k
def two (b:Bool) (x y:Prop):Prop:=match b with
 | true=>x
 | false=>y
theorem two_intro {b:Bool} {x y:Prop} (h:b=true→x) (h':b=false→y):two b x y:=by
 cases b
 ·exact h' rfl
 ·exact h rfl
theorem two_true {b:Bool} {x y:Prop} (h:b=true) (h':x):two b x y:=by subst h;exact h'
theorem two_false {b:Bool} {x y:Prop} (h:b=false) (h':y):two b x y:=by subst h;exact h'
inductive TT (α:Type) where
 | leaf
 | node (l:TT α) (k:Nat) (v:α) (r:TT α)
def TT.get {α:Type}:TT α→Nat→Option α
 | .leaf,_=>none
 | .node l k v r,n=>match Nat.beq n k with
  | true=>some v
  | false=>match Nat.ble n k with
   | true=>l.get n
   | false=>r.get n
inductive UT where
 | int (k:IntKind)
 | bool
 | string
 | slice (e:Nat)
 | ptr (e:Nat)
 | struct (fs:List (Nat×Nat))
 | array (n e:Nat)
 | map (k e:Nat)
 | func
 | iface
 | other
structure TI where
 u:UT
 size:Nat
 bytes:Nat
 zero:List PV
 agg:Bool
structure Tab where
 t:TT TI
 f:TT Func
 e:List (Nat×List Nat)
def eqTy:List (Nat×List Nat)→Nat→Option (List Nat)
 | [],_=>none
 | (t',ks)::l,t=>match Nat.beq t' t with
  | true=>some ks
  | false=>eqTy l t
structure AS where
 t:List (Nat×AV)
 K:List ABlk
def ofConst:Value→AV
 | .int k n=>.p (.int k n)
 | .bool b=>.p (.bool b)
 | .string s=>.p (.str s.data.toList)
 | .pointer none=>.p .nilp
 | .slice none 0 0=>.p .nils
 | .nilFunc=>.p .nilf
 | .nilIface=>.p .nili
 | .map none=>.p .nilm
 | _=>.junk
def ev (t:List (Nat×AV)):Operand→AV
 | .tmp i=>look t i
 | .const v=>ofConst v
 | .func f=>.p (.fn f)
 | .global _=>.junk
def evs (t:List (Nat×AV)):List Operand→List AV
 | []=>[]
 | x::l=>ev t x::evs t l
def AV.cells:AV→List AV
 | .agg cs=>cs
 | a=>[a]
def ones:List AV→Bool
 | []=>true
 | a::l=>a.one&&ones l
def hp (l:List ABlk) (r:Nat):ABlk:=match nth l r with
 | some b=>b
 | none=>.absent
def pvs:List PV→List AV
 | []=>[]
 | v::l=>.p v::pvs l
def updF (f:Nat→List AV) (i:Nat) (c:List AV) (j:Nat):List AV:=match Nat.beq j i with
 | true=>c
 | false=>f j
section
variable (T:Tab) (K:List ABlk) (k:AV→List ABlk→Prop)
noncomputable def part (ti:TI) (cs:List AV) (off:Nat) (k:AV→Prop):Prop :=
 match ti.agg with
 | true=>match Nat.ble (off+ti.size) (len cs) with
  | true=>fVL (takeN (dropN cs off) ti.size) fun l=>k (.agg l)
  | false=>False
 | false=>match nth cs off with
  | some v=>fV v k
  | none=>False
noncomputable def opLoad (ty:Nat) (a:AV):Prop :=
 match T.t.get ty with
 | none=>False
 | some ti=>match a with
  | .rop cs off=>part ti (pvs cs) off fun v=>k v K
  | .ptr r ver n i off=>match nth K r with
   | some (.box _ cs)=>match ver,n,i with
    | 0,1,0=>part ti cs off fun v=>k v K
    | _,_,_=>False
   | some (.arr _ _ ver' n' f)=>Chk (ver=ver'∧n=n') (part ti (f i) off fun v=>k v K)
   | _=>False
  | _=>False
noncomputable def opStore (ty:Nat) (a v:AV):Prop :=
 match T.t.get ty with
 | none=>False
 | some ti=>match Nat.beq (len v.cells) ti.size,ones v.cells with
  | true,true=>match a with
   | .ptr r ver n i off=>match nth K r with
    | some (.box bt cs)=>match ver,n,i with
     | 0,1,0=>match Nat.ble (off+ti.size) (len cs) with
      | true=>fB (.box bt (putC (len cs) cs off v.cells)) fun b=>fL (setN K r b) fun K'=>k .junk K'
      | false=>False
     | _,_,_=>False
    | some (.arr et sz ver' n' f)=>Chk (ver=ver'∧n=n') (match Nat.ble (off+ti.size) sz with
      | true=>fL (setN K r (.arr et sz ver' n' (updF f i (putC sz (f i) off v.cells)))) fun K'=>k .junk K'
      | false=>False)
    | _=>False
   | _=>False
  | _,_=>False
noncomputable def opAlloc (ty:Nat):Prop :=
 match T.t.get ty with
 | none=>False
 | some ti=>fVL (pvs ti.zero) fun cs=>fL (snoc K (.box ty cs)) fun K'=>k (.ptr (len K) 0 1 0 0) K'
noncomputable def opBox (ty:Nat) (v:AV):Prop :=
 match v with
 | .junk=>False
 | .tup _=>False
 | v=>fVL v.cells fun cs=>fL (snoc K (.box ty cs)) fun K'=>k (.ptr (len K) 0 1 0 0) K'
def fillS (T:TT TI) (fs:List (Nat×Nat)) (cs:List AV):List (Nat×AV)→Option (List AV)
 | []=>some cs
 | (i,v)::r=>match nth fs i with
  | none=>none
  | some (off,ft)=>match T.get ft with
   | none=>none
   | some fi=>match Nat.beq (len v.cells) fi.size,Nat.ble (off+fi.size) (len cs),v with
    | _,_,.junk=>none
    | _,_,.tup _=>none
    | true,true,v=>fillS T fs (putCells cs off v.cells) r
    | _,_,_=>none
def fillA (sz:Nat) (cs:List AV):List (Nat×AV)→Option (List AV)
 | []=>some cs
 | (i,v)::r=>match Nat.beq (len v.cells) sz,Nat.ble (i*sz+sz) (len cs),v with
  | _,_,.junk=>none
  | _,_,.tup _=>none
  | true,true,v=>fillA sz (putD sz cs (i*sz) v.cells) r
  | _,_,_=>none
def reps (z:List AV):Nat→List AV
 | 0=>[]
 | n+1=>catL z (reps z n)
noncomputable def opBuild (ty:Nat) (parts:List (Nat×AV)):Prop :=
 match T.t.get ty with
 | none=>False
 | some ti=>match ti.u with
  | .struct fs=>match fillS T.t fs (pvs ti.zero) parts with
   | some cs=>fVL cs fun l=>k (.agg l) K
   | none=>False
  | _=>False
noncomputable def opBuildSliceO (ty n:Nat) (parts:List (Nat×AV)):Prop :=
 match T.t.get ty with
 | none=>False
 | some ti=>match ti.u with
  | .slice e=>match T.t.get e with
   | none=>False
   | some ei=>match Nat.ble (n*ei.size) 16777216,Nat.beq ei.size 0,Nat.beq (len ei.zero) ei.size,fillA ei.size (reps (pvs ei.zero) n) parts with
    | true,false,true,some cs=>fVL cs fun l=>fL (snoc K (.arr e ei.size 0 n fun i=>takeN (dropN l (i*ei.size)) ei.size)) fun K'=>k (.slr (len K) 0 0 n) K'
    | _,_,_,_=>False
  | _=>False
noncomputable def gathS (x:Nat×AV) (_:List (Nat×AV)) (ih:Nat→(List AV→Prop)→Prop) (j:Nat) (k:List AV→Prop):Prop:=match x with
 | (i,v)=>match Nat.beq i j with
  | true=>match v.one with
   | true=>fV v fun v=>ih (j+1) fun l=>k (v::l)
   | false=>False
  | false=>False
noncomputable def gath (parts:List (Nat×AV)):Nat→(List AV→Prop)→Prop:=List.rec (motive:=fun _=>Nat→(List AV→Prop)→Prop) (fun _ k=>k []) gathS parts
theorem gath_cons (i:Nat) (v:AV) (l:List (Nat×AV)) (j:Nat) (k:List AV→Prop):gath ((i,v)::l) j k=match Nat.beq i j with
  | true=>match v.one with
   | true=>fV v fun v=>gath l (j+1) fun l=>k (v::l)
   | false=>False
  | false=>False:=rfl
noncomputable def opBuildSlice (ty n:Nat) (parts:List (Nat×AV)):Prop :=
 match T.t.get ty with
 | none=>False
 | some ti=>match ti.u with
  | .slice e=>match T.t.get e with
   | none=>False
   | some ei=>match Nat.beq ei.size 1 with
    | true=>match Nat.ble n 16777216,Nat.beq (len ei.zero) 1 with
     | true,true=>gath parts 0 fun l=>match Nat.beq (len l) n with
      | true=>fL (snoc K (.arr e ei.size 0 n fun i=>takeN (dropN l (i*ei.size)) ei.size)) fun K'=>k (.slr (len K) 0 0 n) K'
      | false=>False
     | _,_=>False
    | false=>opBuildSliceO T K k ty n parts
  | _=>False
noncomputable def opNilCheck (a:AV):Prop :=
 match a with
 | .ptr r ver n i off=>k (.ptr r ver n i off) K
 | .rop cs off=>k (.rop cs off) K
 | .fn f a b=>k (.fn f a b) K
 | .p (.fn f)=>k (.p (.fn f)) K
 | .iface t v=>k (.iface t v) K
 | _=>False
def opInt (op:BinOp) (q:IntKind) (a b:Int):Prop :=
 match op with
 | .add=>k (.p (.int q (q.wrap (a+b)))) K
 | .sub=>k (.p (.int q (q.wrap (a - b)))) K
 | .mul=>k (.p (.int q (q.wrap (a*b)))) K
 | .quo=>Chk (b≠0) (k (.p (.int q (q.wrap (a.tdiv b)))) K)
 | .rem=>Chk (b≠0) (k (.p (.int q (a.tmod b))) K)
 | .eql=>k (.p (.bool (a==b))) K
 | .neq=>k (.p (.bool (a != b))) K
 | .lss=>k (.p (.bool (decide (a<b)))) K
 | .leq=>k (.p (.bool (decide (a≤b)))) K
 | .gtr=>k (.p (.bool (decide (a>b)))) K
 | .geq=>k (.p (.bool (decide (a≥b)))) K
 | .and=>k (.p (.int q (bits .and q a b))) K
 | .or=>k (.p (.int q (bits .or q a b))) K
 | .andNot=>k (.p (.int q (bits .andNot q a b))) K
 | _=>False
def opShift (op:BinOp) (q:IntKind) (a b:Int):Prop :=
 match op with
 | .shl=>Chk (0≤b) (k (.p (.int q (q.wrap (a*2 ^ min b.toNat q.bits)))) K)
 | .shr=>Chk (0≤b) (k (.p (.int q (a.fdiv (2 ^ min b.toNat q.bits)))) K)
 | _=>False
def isShift:BinOp→Bool
 | .shl=>true
 | .shr=>true
 | _=>false
def opStr (op:BinOp) (a b:List UInt8):Prop :=
 match op with
 | .add=>Chk (a.length+b.length≤9223372036854775807) (k (.p (.str (a++b))) K)
 | .eql=>k (.p (.bool (a==b))) K
 | .neq=>k (.p (.bool (!(a==b)))) K
 | .lss=>k (.p (.bool (Op.bytesLess a b))) K
 | .leq=>k (.p (.bool (Op.bytesLess a b || a==b))) K
 | .gtr=>k (.p (.bool (!(Op.bytesLess a b || a==b)))) K
 | .geq=>k (.p (.bool (!Op.bytesLess a b))) K
 | _=>False
def nilOf (u:UT) (c:PV) (x:AV):Option Bool:=match u with
 | .iface=>match c with
  | .nili=>match x with
   | .p .nili=>some true
   | .iface _ _=>some false
   | _=>none
  | _=>none
 | .ptr _=>match c with
  | .nilp=>match x with
   | .p .nilp=>some true
   | .ptr _ _ _ _ _=>some false
   | .rop _ _=>some false
   | _=>none
  | _=>none
 | .func=>match c with
  | .nilf=>match x with
   | .p .nilf=>some true
   | .p (.fn _)=>some false
   | .fn _ _ _=>some false
   | _=>none
  | _=>none
 | _=>none
def nilC:Operand→Option PV
 | .const .nilIface=>some .nili
 | .const (.pointer none)=>some .nilp
 | .const .nilFunc=>some .nilf
 | _=>none
def opNilCmp (op:BinOp) (ty:Nat) (x:AV) (c:PV):Prop :=
 match T.t.get ty with
 | none=>False
 | some ti=>match nilOf ti.u c x with
  | none=>False
  | some b=>match op with
   | .eql=>k (.p (.bool b)) K
   | .neq=>k (.p (.bool (!b))) K
   | _=>False
def okC (n:Nat) (a b:AV):Bool:=match n with
 | 0=>match a with
  | .p (.int q _)=>match b with
   | .p (.int q' _)=>decide (q=q')
   | _=>false
  | _=>false
 | 1=>match a with
  | .p (.bool _)=>match b with
   | .p (.bool _)=>true
   | _=>false
  | _=>false
 | 2=>match a with
  | .p (.str _)=>match b with
   | .p (.str _)=>true
   | _=>false
  | _=>false
 | _=>false
def okCs:List Nat→List AV→List AV→Bool
 | [],[],[]=>true
 | n::l,a::xs,b::ys=>match okC n a b with
  | true=>okCs l xs ys
  | false=>false
 | _,_,_=>false
def eqC:AV→AV→Bool
 | .p (.int _ a),.p (.int _ b)=>a==b
 | .p (.bool a),.p (.bool b)=>a==b
 | .p (.str a),.p (.str b)=>a==b
 | _,_=>false
def eqCs:List AV→List AV→Bool
 | a::xs,b::ys=>eqC a b&&eqCs xs ys
 | _,_=>true
def opEqAgg (op:BinOp) (ty:Nat) (xs ys:List AV):Prop :=
 match eqTy T.e ty with
 | none=>False
 | some ks=>match okCs ks xs ys with
  | false=>False
  | true=>match op with
   | .eql=>k (.p (.bool (eqCs xs ys))) K
   | .neq=>k (.p (.bool (!(eqCs xs ys)))) K
   | _=>False
def opBin (op:BinOp) (ty:Nat) (x y:AV):Prop :=
 match x with
 | .p (.int q a)=>match y with
  | .p (.int q' b)=>match isShift op with
   | true=>opShift K k op q a b
   | false=>match decide (q=q') with
    | true=>opInt K k op q a b
    | false=>False
  | _=>False
 | .p (.str a)=>match y with
  | .p (.str b)=>opStr K k op a b
  | _=>False
 | .p (.bool a)=>match y with
  | .p (.bool b)=>match T.t.get ty with
   | none=>False
   | some ti=>match ti.u with
    | .bool=>match op with
     | .eql=>k (.p (.bool (a==b))) K
     | .neq=>k (.p (.bool (!(a==b)))) K
     | _=>False
    | _=>False
  | _=>False
 | .agg xs=>match y with
  | .agg ys=>opEqAgg T K k op ty xs ys
  | _=>False
 | _=>False
def opUn (op:UnOp) (x:AV):Prop :=
 match op with
 | .not=>match x with
  | .p (.bool b)=>k (.p (.bool (!b))) K
  | _=>False
 | .neg=>match x with
  | .p (.int q n)=>k (.p (.int q (q.wrap (0 - n)))) K
  | _=>False
 | _=>False
def byteF (l:List UInt8) (i:Nat):List PV:=[.int .u8 ((l.getD i 0).toNat:Int)]
def opConv (src dst:Nat) (x:AV):Prop :=
 match T.t.get src with
 | none=>False
 | some _=>match T.t.get dst with
  | none=>False
  | some d=>match d.u with
   | .int q=>match x with
    | .p (.int _ n)=>k (.p (.int q (q.wrap n))) K
    | _=>False
   | .string=>match x with
    | .p (.str l)=>k (.p (.str l)) K
    | _=>False
   | .slice e=>match T.t.get e with
    | none=>False
    | some ei=>match ei.u with
     | .int .u8=>match x with
      | .p (.str l)=>Chk (l.length≤9223372036854775807) (k (.p (.sl 1 l.length (byteF l))) K)
      | _=>False
     | _=>False
   | _=>False
def opIface (ty:Nat) (x:AV):Prop :=
 match T.t.get ty with
 | none=>False
 | some ti=>match ti.u with
  | .iface=>False
  | .other=>False
  | _=>k (.iface ty x) K
noncomputable def opMakeSlice (ty:Nat) (l c:AV):Prop :=
 match T.t.get ty with
 | none=>False
 | some ti=>match ti.u with
  | .slice e=>match T.t.get e with
   | none=>False
   | some ei=>match l with
    | .p (.int _ n)=>match c with
     | .p (.int _ c)=>match Nat.beq ei.size 0,Nat.beq (len ei.zero) ei.size with
      | false,true=>Chk (0≤n∧n≤c∧c≤9223372036854775807∧(ei.bytes:Int)*c≤140737488355328) (fVL (pvs ei.zero) fun z=>fL (snoc K (.arr e ei.size 0 n.toNat fun _=>z)) fun K'=>k (.slr (len K) 0 0 n.toNat) K')
      | _,_=>False
     | _=>False
    | _=>False
  | _=>False
def bnd (d:Nat):Option AV→Option Int
 | none=>some (Int.ofNat d)
 | some (.p (.int _ n))=>some n
 | _=>none
noncomputable def opSlice (ty:Nat) (x:AV) (lo hi:Option AV):Prop :=
 match T.t.get ty with
 | none=>False
 | some ti=>match ti.u with
  | .string=>match x with
   | .p (.str s)=>match bnd 0 lo with
    | none=>False
    | some l=>match bnd s.length hi with
     | none=>False
     | some h=>Chk (0≤l∧l≤h∧h≤(s.length:Int)) (k (.p (.str ((s.take h.toNat).drop l.toNat))) K)
   | _=>False
  | .slice e=>match T.t.get e with
   | none=>False
   | some ei=>match x with
    | .p (.sl sz n f)=>match bnd 0 lo with
     | none=>False
     | some l=>match bnd n hi with
      | none=>False
      | some h=>Chk (0≤l∧l≤h∧h≤(n:Int)∧ei.size=sz) (k (.p (.sl sz (h.toNat - l.toNat) fun i=>f (i+l.toNat))) K)
    | .slr r ver off n=>match hi with
     | some _=>False
     | none=>match bnd 0 lo with
      | none=>False
      | some l=>match nth K r with
       | some (.arr _ sz ver' n' _)=>Chk (ver=ver'∧off+n=n'∧0≤l∧l≤(n:Int)∧ei.size=sz) (k (.slr r ver (off+l.toNat) (n - l.toNat)) K)
       | _=>False
    | _=>False
  | _=>False
def opFieldAddr (ty:Nat) (x:AV) (i:Nat):Prop :=
 match T.t.get ty with
 | none=>False
 | some ti=>match ti.u with
  | .struct fs=>match nth fs i with
   | none=>False
   | some (fo,ft)=>match T.t.get ft with
    | none=>False
    | some fi=>match Nat.beq fi.size 0 with
     | true=>False
     | false=>match x with
      | .ptr r ver n j off=>k (.ptr r ver n j (off+fo)) K
      | .rop cs off=>k (.rop cs (off+fo)) K
      | _=>False
  | _=>False
def opField (ty:Nat) (x:AV) (i:Nat):Prop :=
 match T.t.get ty with
 | none=>False
 | some ti=>match ti.u with
  | .struct fs=>match nth fs i with
   | none=>False
   | some (fo,ft)=>match T.t.get ft with
    | none=>False
    | some fi=>match x with
     | .agg cs=>part fi cs fo fun v=>k v K
     | _=>False
  | _=>False
noncomputable def opIndexAddr (ty:Nat) (x i:AV):Prop :=
 match T.t.get ty with
 | none=>False
 | some ti=>match ti.u with
  | .slice e=>match T.t.get e with
   | none=>False
   | some ei=>match i with
    | .p (.int _ i)=>match x with
     | .p (.sl sz n f)=>Chk (0≤i∧i<(n:Int)∧ei.size=sz) (fL (f i.toNat) fun cs=>k (.rop cs 0) K)
     | .slr r ver off n=>match nth K r with
      | some (.arr _ sz ver' n' _)=>Chk (ver=ver'∧off+n=n'∧0≤i∧i<(n:Int)∧ei.size=sz) (k (.ptr r ver n' (off+i.toNat) 0) K)
      | _=>False
     | _=>False
    | _=>False
  | .array len e=>match T.t.get e with
   | none=>False
   | some ei=>match Nat.beq ei.size 1 with
    | true=>match i with
     | .p (.int _ i)=>match x with
      | .ptr r ver n j off=>match off with
       | 0=>Chk (0≤i∧i<(len:Int)) (k (.ptr r ver n j i.toNat) K)
       | _+1=>False
      | .rop cs off=>match off with
       | 0=>Chk (0≤i∧i<(len:Int)) (k (.rop cs i.toNat) K)
       | _+1=>False
      | _=>False
     | _=>False
    | false=>False
  | _=>False
def byteAt (s:List UInt8) (i:Nat):Int:=((s.getD i 0).toNat:Int)
noncomputable def opIndex (ty:Nat) (x i:AV):Prop :=
 match T.t.get ty with
 | none=>False
 | some ti=>match i with
  | .p (.int _ i)=>match ti.u with
   | .string=>match x with
    | .p (.str s)=>Chk (0≤i∧i<(s.length:Int)) (k (.p (.int .u8 (byteAt s i.toNat))) K)
    | _=>False
   | .array len e=>match T.t.get e with
    | none=>False
    | some ei=>match Nat.beq ei.size 1 with
     | true=>match x with
      | .agg cs=>Chk (0≤i∧i<(len:Int)) (part ei cs i.toNat fun v=>k v K)
      | _=>False
     | false=>False
   | _=>False
  | _=>False
noncomputable def opExtract (x:AV) (i:Nat):Prop :=
 match x with
 | .tup vs=>match nth vs i with
  | some v=>fV v fun v=>k v K
  | none=>False
 | _=>False
def opLen (ty:Nat) (x:AV):Prop :=
 match T.t.get ty with
 | none=>False
 | some ti=>match ti.u with
  | .string=>match x with
   | .p (.str s)=>k (.p (.int .i64 (s.length:Int))) K
   | _=>False
  | .slice _=>match x with
   | .p (.sl _ n _)=>k (.p (.int .i64 (n:Int))) K
   | .p .nils=>k (.p (.int .i64 0)) K
   | .slr _ _ _ n=>k (.p (.int .i64 (n:Int))) K
   | _=>False
  | _=>False
def catF (n:Nat) (f g:Nat→List AV) (i:Nat):List AV :=
 match Nat.blt i n with
 | true=>f i
 | false=>g (i - n)
noncomputable def news (K:List ABlk) (sz:Nat) (x:AV) (k:Nat→(Nat→List AV)→Prop):Prop :=
 match x with
 | .p .nils=>k 0 fun _=>[]
 | .p (.sl sz' n f)=>Chk (sz'=sz∧∀ i,i<n→(f i).length=sz) (k n fun i=>pvs (f i))
 | .slr r ver off n=>match nth K r with
  | some (.arr _ sz' ver' n' f)=>Chk (ver=ver'∧off+n=n'∧sz'=sz∧∀ i,i<n'→ones (f i)=true) (k n fun i=>f (i+off))
  | _=>False
 | _=>False
noncomputable def appOff (e:Nat) (ei:TI) (r ver off n m:Nat) (g:Nat→List AV):Prop :=
 match nth K r with
 | some (.arr et sz ver' n' f)=>Chk (ver=ver'∧off+n=n'∧sz=ei.size∧et=e∧(n'+m)*ei.bytes≤140737488355328∧n'+m≤9223372036854775807)
   (fL (setN K r (.arr e ei.size ver (n'+m) (catF n' f g))) (fun K'=>k (.slr r ver off (n+m)) K') ∧
    fL (setN K r (.arr e ei.size (ver+1) (n+m) (catF n (fun i=>f (i+off)) g))) fun K'=>k (.slr r (ver+1) 0 (n+m)) K')
 | _=>False
noncomputable def opAppend (ty:Nat) (s x:AV):Prop :=
 match T.t.get ty with
 | none=>False
 | some ti=>match ti.u with
  | .slice e=>match T.t.get e with
   | none=>False
   | some ei=>match Nat.beq ei.size 0,Nat.beq (len ei.zero) ei.size with
    | false,true=>news K ei.size x fun m g=>match s with
     | .p .nils=>match m with
      | 0=>k (.p .nils) K
      | m'+1=>Chk ((m'+1)*ei.bytes≤140737488355328∧m'+1≤9223372036854775807) (fL (snoc K (.arr e ei.size 0 (m'+1) g)) fun K'=>k (.slr (len K) 0 0 (m'+1)) K')
     | .slr r ver off n=>match off with
      | 0=>match nth K r with
       | some (.arr et sz ver' n' f)=>Chk (ver=ver'∧n=n'∧sz=ei.size∧et=e∧(n+m)*ei.bytes≤140737488355328∧n+m≤9223372036854775807)
         (fL (setN K r (.arr e ei.size ver (n+m) (catF n f g))) fun K'=>k (.slr r ver 0 (n+m)) K')
       | _=>False
      | o+1=>appOff K k e ei r ver (o+1) n m g
     | _=>False
    | _,_=>False
  | _=>False
def opMaxMin (mx:Bool) (x y:AV):Prop :=
 match x with
 | .p (.int q a)=>match y with
  | .p (.int _ b)=>match mx with
   | true=>k (.p (.int q (if b>a then b else a))) K
   | false=>k (.p (.int q (if b<a then b else a))) K
  | _=>False
 | _=>False
noncomputable def zeroV (ti:TI) (k:AV→Prop):Prop:=match ti.agg with
 | true=>fVL (pvs ti.zero) fun l=>k (.agg l)
 | false=>match ti.zero with
  | [z]=>fV (.p z) k
  | _=>False
def UT.plain:UT→Bool
 | .iface=>false
 | .other=>false
 | _=>true
def UT.kt:UT→Option KT
 | .int q=>some (.int q)
 | .string=>some .str
 | _=>none
def keyOf:AV→Option MK
 | .p (.int q n)=>some (.i q n)
 | .p (.str l)=>some (.s l)
 | _=>none
def ktIs:KT→KT→Bool
 | .int q,.int q'=>decide (q=q')
 | .str,.str=>true
 | _,_=>false
structure MGet (o:Option AV) (y:AV→Prop) (n:Prop):Prop where
 y:∀ a,o=some a→y a
 n:o=none→n
def mapTy (ty:Nat) (k:KT→TI→Prop):Prop:=match T.t.get ty with
 | none=>False
 | some ti=>match ti.u with
  | .map kty e=>match T.t.get kty with
   | none=>False
   | some ki=>match ki.u.kt with
    | none=>False
    | some kt=>match T.t.get e with
     | none=>False
     | some ei=>k kt ei
  | _=>False
noncomputable def opMakeMap (ty:Nat):Prop :=
 mapTy T ty fun kt _=>fL (snoc K (.mp kt (fun _=>none) [])) fun K'=>k (.mref (len K)) K'
def ansM (ok:Bool) (v:AV) (b:Bool) (k:AV→Prop):Prop:=match ok with
 | true=>k (.tup [v,.p (.bool b)])
 | false=>k v
noncomputable def fnM (kt:KT) (x:AV) (k:(MK→Option AV)→Prop):Prop:=match x with
 | .p .nilm=>k fun _=>none
 | .p (.mp kt' g)=>match ktIs kt' kt with
  | true=>k fun κ=>match g κ with
   | none=>none
   | some p=>some (.p p)
  | false=>False
 | .mref r=>match nth K r with
  | some (.mp kt' g _)=>match ktIs kt' kt with
   | true=>k g
   | false=>False
  | _=>False
 | _=>False
noncomputable def opLookup (ty:Nat) (ok:Bool) (x key:AV):Prop :=
 mapTy T ty fun kt ei=>match keyOf key with
  | none=>False
  | some κ=>match ktIs κ.kt kt with
   | true=>fnM K kt x fun g=>MGet (g κ) (fun a=>ansM ok a true fun v=>k v K) (zeroV ei fun z=>ansM ok z false fun v=>k v K)
   | false=>False
def insM (g:MK→Option AV) (κ:MK) (a:AV) (κ':MK):Option AV:=if κ'=κ then some a else g κ'
noncomputable def opMapUpdate (ty:Nat) (x key v:AV):Prop :=
 mapTy T ty fun kt _=>match keyOf key with
  | none=>False
  | some κ=>match ktIs κ.kt kt with
   | true=>match x with
    | .mref r=>match nth K r with
     | some (.mp kt' g st)=>match ktIs kt' kt with
      | true=>fL (setN K r (.mp kt' (insM g κ v) st)) fun K'=>k .junk K'
      | false=>False
     | _=>False
    | _=>False
   | false=>False
noncomputable def opMapEntry (ty:Nat) (x key:AV):Prop :=
 mapTy T ty fun kt ei=>match keyOf key with
  | none=>False
  | some κ=>match ktIs κ.kt kt with
   | true=>match x with
    | .mref r=>match nth K r with
     | some (.mp kt' g _)=>match ktIs kt' kt with
      | true=>∀ n:Nat,MGet (g κ) (fun a=>fL (setN K r (.mp kt' g [(κ,n)])) fun K'=>k (.tup [a,.p (.int .i64 n)]) K')
        (zeroV ei fun z=>fL (setN K r (.mp kt' (insM g κ z) [(κ,n)])) fun K'=>k (.tup [z,.p (.int .i64 n)]) K')
      | false=>False
     | _=>False
    | _=>False
   | false=>False
noncomputable def opEntryStore (x s v:AV):Prop :=
 match x with
 | .mref r=>match s with
  | .p (.int _ b)=>match nth K r with
   | some (.mp kt' g [(κ,n)])=>Chk (b=(n:Int)) (fL (setN K r (.mp kt' (insM g κ v) [])) fun K'=>k .junk K')
   | _=>False
  | _=>False
 | _=>False
noncomputable def opAssert (ty:Nat) (ok:Bool) (x:AV):Prop:=match ok with
 | false=>False
 | true=>match T.t.get ty with
  | none=>False
  | some ti=>match ti.u.plain with
   | false=>False
   | true=>match x with
    | .p .nili=>zeroV ti fun z=>k (.tup [z,.p (.bool false)]) K
    | .iface t v=>match Nat.beq t ty with
     | true=>fV v fun v=>k (.tup [v,.p (.bool true)]) K
     | false=>zeroV ti fun z=>k (.tup [z,.p (.bool false)]) K
    | _=>False
end
inductive AO where
 | ret (v:AV)
 | pan (v:AV)
inductive Ex where
 | norm
 | exit (n:Nat)
 | ret
 | pan (v:AV)
abbrev ACall:=FuncId→List AV→List ABlk→(AO→List ABlk→Prop)→Prop
def partsOf (t:List (Nat×AV)):List (Nat×Operand)→List (Nat×AV)
 | []=>[]
 | (i,x)::l=>(i,ev t x)::partsOf t l
def optEv (t:List (Nat×AV)):Option Operand→Option AV
 | none=>none
 | some x=>some (ev t x)
def callF (call:ACall) (f:FuncId) (args:List AV) (K:List ABlk) (k:AO→List ABlk→Prop):Prop:=match Nat.blt f 1000000000 with
 | true=>call f args K k
 | false=>False
noncomputable def aCallV (call:ACall) (f:AV) (args:List AV) (K:List ABlk) (k:AO→List ABlk→Prop):Prop :=
 match f with
 | .p (.fn g)=>callF call g args K k
 | .fn g a b=>fVL (catL (catL a args) b) fun l=>callF call g l K k
 | .yld r=>call (Nat.add 1000000000 r) args K k
 | _=>False
noncomputable def aop (T:Tab) (call:ACall) (o:Oper) (t:List (Nat×AV)) (K:List ABlk) (k:AV→List ABlk→Prop) (kp:AV→List ABlk→Prop):Prop :=
 match o.op with
 | .move x=>fV (ev t x) fun v=>k v K
 | .assign x=>fV (ev t x) fun v=>k v K
 | .pick c a b=>match ev t c with
  | .p (.bool q)=>two q (fV (ev t a) fun v=>k v K) (fV (ev t b) fun v=>k v K)
  | _=>False
 | .alloc e=>opAlloc T K k e
 | .box e x=>opBox K k e (ev t x)
 | .build ty ps=>opBuild T K k ty (partsOf t ps.toList)
 | .buildSlice ty n ps=>opBuildSlice T K k ty n (partsOf t ps.toList)
 | .load ty a=>opLoad T K k ty (ev t a)
 | .store ty a v=>opStore T K k ty (ev t a) (ev t v)
 | .nilCheck x=>opNilCheck K k (ev t x)
 | .binOp op ty x y _=>match nilC y with
  | some c=>opNilCmp T K k op ty (ev t x) c
  | none=>opBin T K k op ty (ev t x) (ev t y)
 | .unOp op _ x=>opUn K k op (ev t x)
 | .convert s d x=>opConv T K k s d (ev t x)
 | .makeInterface ty x=>opIface T K k ty (ev t x)
 | .makeFunc (.func f) a b=>fVL (evs t a.toList) fun l=>fVL (evs t b.toList) fun l'=>k (.fn f l l') K
 | .makeSlice ty l c=>opMakeSlice T K k ty (ev t l) (ev t c)
 | .slice ty x lo hi none=>opSlice T K k ty (ev t x) (optEv t lo) (optEv t hi)
 | .fieldAddr ty x i=>opFieldAddr T K k ty (ev t x) i
 | .field ty x i=>opField T K k ty (ev t x) i
 | .indexAddr ty x i=>opIndexAddr T K k ty (ev t x) (ev t i)
 | .index ty x i=>opIndex T K k ty (ev t x) (ev t i)
 | .extract x i=>opExtract K k (ev t x) i
 | .makeMap ty none=>opMakeMap T K k ty
 | .lookup ty x i ok=>opLookup T K k ty ok (ev t x) (ev t i)
 | .mapUpdate ty x i v=>opMapUpdate T K k ty (ev t x) (ev t i) (ev t v)
 | .mapEntry ty x i=>opMapEntry T K k ty (ev t x) (ev t i)
 | .entryStore _ x s v=>opEntryStore K k (ev t x) (ev t s) (ev t v)
 | .insert ty x i v=>opMapUpdate T K k ty (ev t x) (ev t i) (ev t v)
 | .typeAssert x _ ty ok=>opAssert T K k ty ok (ev t x)
 | .panic x=>match ev t x with
  | .iface ty v=>kp (.iface ty v) K
  | _=>False
 | .call c=>match c.callee with
  | .builtin b=>match b with
   | .len=>match c.args.toList with
    | [x]=>match c.argTypes.toList with
     | [ty]=>opLen T K k ty (ev t x)
     | _=>False
    | _=>False
   | .append=>match c.args.toList with
    | [s,x]=>match c.argTypes.toList with
     | [ty,ty']=>match Nat.beq ty ty' with
      | true=>opAppend T K k ty (ev t s) (ev t x)
      | false=>False
     | _=>False
    | _=>False
   | .max=>match c.args.toList with
    | [x,y]=>opMaxMin K k true (ev t x) (ev t y)
    | _=>False
   | .min=>match c.args.toList with
    | [x,y]=>opMaxMin K k false (ev t x) (ev t y)
    | _=>False
   | _=>False
  | .value f=>fVL (evs t c.args.toList) fun args=>aCallV call (ev t f) args K fun out K'=>match out with
   | .ret v=>fV v fun v=>k v K'
   | .pan v=>kp v K'
  | _=>False
 | _=>False
def know (t:List (Nat×AV)) (d:Nat) (b:Bool):List (Nat×AV):=(d,.p (.bool b))::t
def want (ops:List Oper) (t:List (Nat×AV)) (g:Option (Nat×Bool)) (y n:List (Nat×AV)→Prop):Prop :=
 match g with
 | none=>y t
 | some (j,w)=>match nth ops j with
  | none=>False
  | some o=>match o.dst with
   | none=>False
   | some d=>match look t d with
    | .p (.bool b)=>match w with
     | true=>two b (y (know t d true)) (n (know t d false))
     | false=>two b (n (know t d true)) (y (know t d false))
    | .tup []=>n t
    | _=>False
def put (t:List (Nat×AV)) (d:Option Nat) (v:AV):List (Nat×AV):=match d with
 | some d=>(d,v)::t
 | none=>t
def bound (N:Nat) (d:Option Nat) (k:Prop):Prop:=match d with
 | some d=>match Nat.blt d N with
  | true=>k
  | false=>False
 | none=>k
noncomputable def opShrink (T:Tab) (K:List ABlk) (k:AV→List ABlk→Prop) (ty r ver off n:Nat) (hi:AV):Prop :=
 match T.t.get ty with
 | none=>False
 | some ti=>match ti.u with
  | .slice e=>match T.t.get e with
   | none=>False
   | some ei=>match hi with
    | .p (.int _ h)=>match off with
     | 0=>match nth K r with
      | some (.arr et sz ver' n' f)=>Chk (ver=ver'∧n=n'∧0≤h∧h<(n:Int)∧ei.size=sz) (fL (setN K r (.arr et sz (ver+1) h.toNat f)) fun K'=>k (.slr r (ver+1) 0 h.toNat) K')
      | _=>False
     | _+1=>False
    | _=>False
  | _=>False
noncomputable def aopX (T:Tab) (call:ACall) (o:Oper) (t:List (Nat×AV)) (K:List ABlk) (k:AV→List ABlk→Prop) (kp:AV→List ABlk→Prop):Prop :=
 match o.op with
 | .slice ty x none (some hi) none=>match ev t x with
  | .slr r ver off n=>opShrink T K k ty r ver off n (ev t hi)
  | _=>aop T call o t K k kp
 | _=>aop T call o t K k kp
abbrev AOps:=List (Nat×AV)→List ABlk→(Ex→AS→Prop)→Prop
noncomputable def aopsS (T:Tab) (call:ACall) (N:Nat) (ops:List Oper) (o:Oper) (_:List Oper) (ih:AOps) (t:List (Nat×AV)) (K:List ABlk) (Q:Ex→AS→Prop):Prop :=
 bound N o.dst <| want ops t o.guard
   (fun t=>aopX T call o t K (fun v K'=>ih (put t o.dst v) K' Q) (fun v K'=>Q (.pan v) ⟨t,K'⟩))
   (fun t=>ih (put t o.dst (.tup [])) K Q)
noncomputable def aopsE (t:List (Nat×AV)) (K:List ABlk) (Q:Ex→AS→Prop):Prop:=Q .norm ⟨t,K⟩
noncomputable def aops (T:Tab) (call:ACall) (N:Nat) (ops:List Oper) (l:List Oper):AOps:=List.rec (motive:=fun _=>AOps) aopsE (aopsS T call N ops) l
theorem aops_cons (T:Tab) (call:ACall) (N:Nat) (ops:List Oper) (o:Oper) (rest:List Oper) (t:List (Nat×AV)) (K:List ABlk) (Q:Ex→AS→Prop):aops T call N ops (o::rest) t K Q =
  (bound N o.dst <| want ops t o.guard
   (fun t=>aopX T call o t K (fun v K'=>aops T call N ops rest (put t o.dst v) K' Q) (fun v K'=>Q (.pan v) ⟨t,K'⟩))
   (fun t=>aops T call N ops rest (put t o.dst (.tup [])) K Q)):=rfl
def kind:Op→Nat
 | .move _ | .assign _ | .pick _ _ _ | .nilCheck _ | .binOp _ _ _ _ _ | .unOp _ _ _ | .convert _ _ _ | .makeInterface _ _ | .makeFunc _ _ _
 | .fieldAddr _ _ _ | .field _ _ _ | .index _ _ _ | .extract _ _ | .build _ _=>0
 | .load _ _ | .indexAddr _ _ _ | .slice _ _ _ _ _ | .lookup _ _ _ _=>1
 | .call c=>match c.callee with
  | .builtin b=>match b with
   | .len=>0
   | .max=>0
   | .min=>0
   | _=>2
  | _=>2
 | _=>2
def mem (l:List Nat) (n:Nat):Bool:=match l with
 | []=>false
 | a::r=>match Nat.beq a n with
  | true=>true
  | false=>mem r n
def edges (o:Oper):List Nat:=(o.after.toList.filter (Region.binds .any)).map (·.on)
def ancOf (ac:List (List Nat)) (i:Nat):List Nat:=match nth ac i with
 | some l=>l
 | none=>[]
def unN:List Nat→List Nat→List Nat
 | [],m=>m
 | a::l,m=>match mem m a with
  | true=>unN l m
  | false=>a::unN l m
def addAll (acc:List (List Nat)):List Nat→List Nat→List Nat
 | [],out=>out
 | e::r,out=>match mem out e with
  | true=>addAll acc r out
  | false=>addAll acc r (unN (ancOf acc e) (e::out))
def ancs:List Oper→List (List Nat)→List (List Nat)
 | [],acc=>acc
 | o::r,acc=>ancs r (snoc acc (addAll acc (edges o) []))
def slots:List Operand→List Nat
 | []=>[]
 | .tmp d::r=>d::slots r
 | _::r=>slots r
def kindAt (ops:List Oper) (i:Nat):Nat:=match nth ops i with
 | some o=>kind o.op
 | none=>0
def subset:List Nat→List Nat→Bool
 | [],_=>true
 | a::r,l=>mem l a&&subset r l
def gslot (ops:List Oper) (o:Oper):List Nat:=match o.guard with
 | none=>[]
 | some (j,_)=>match nth ops j with
  | none=>[]
  | some o'=>match o'.dst with
   | none=>[]
   | some d=>d::[]
def slotsG (ops:List Oper) (o:Oper):List Nat:=slots o.op.operands.toList++gslot ops o
def avail (ops:List Oper) (ac:List (List Nat)) (done:List Nat) (want:Bool) (i:Nat):Bool:=!mem done i&&subset (ancOf ac i) done&&((Nat.beq (kindAt ops i) 2)==want)
def pickQ (ops:List Oper) (ac:List (List Nat)) (done:List Nat):List Nat→Option Nat
 | []=>none
 | i::r=>match avail ops ac done false i with
  | true=>some i
  | false=>pickQ ops ac done r
def loudN (ops:List Oper) (ac:List (List Nat)) (done:List Nat):List Nat→List Nat
 | []=>[]
 | i::r=>match avail ops ac done true i with
  | true=>i::loudN ops ac done r
  | false=>loudN ops ac done r
def upto:Nat→List Nat
 | 0=>[]
 | n+1=>snoc (upto n) n
def dstAt (ops:List Oper) (i:Nat):Option Nat:=match nth ops i with
 | some o=>o.dst
 | none=>none
def slotOk (ops:List Oper) (ac:List (List Nat)) (all:List (Nat×Oper)):Bool :=
 all.all fun (i,o)=>match o.dst with
  | none=>true
  | some d=>all.all fun (j,o')=>Nat.beq i j || (!(o'.dst==some d)&&(!mem (slotsG ops o') d || mem (ancOf ac j) i || mem (ancOf ac i) j))
def enum:Nat→List Oper→List (Nat×Oper)
 | _,[]=>[]
 | i,o::r=>(i,o)::enum (i+1) r
def drawC (ops:List Oper) (ac:List (List Nat)):Bool :=
 (enum 0 ops).all (fun (i,o)=>(edges o).all fun e=>Nat.blt e i)&&slotOk ops ac (enum 0 ops)
def drawB (ops:List Oper):Bool:=drawC ops (ancs ops [])
noncomputable def aopG (T:Tab) (call:ACall) (ops:List Oper) (o:Oper) (t:List (Nat×AV)) (K:List ABlk) (k:AV→List ABlk→Prop) (kp:AV→List ABlk→Prop):Prop :=
 match o.guard with
 | none=>aop T call o t K k kp
 | some (j,w)=>match nth ops j with
  | none=>False
  | some o'=>match o'.dst with
   | none=>False
   | some d=>match look t d with
    | .p (.bool b)=>match b,w with
     | true,true=>aop T call o t K k kp
     | false,false=>aop T call o t K k kp
     | _,_=>k (.tup []) K
    | .tup []=>k (.tup []) K
    | _=>False
def isGd (i:Nat):List Oper→Bool
 | []=>false
 | o::r=>match o.guard with
  | none=>isGd i r
  | some (j,_)=>match Nat.beq i j with
   | true=>true
   | false=>isGd i r
def splitG (g:Bool) (v:AV) (f:AV→Prop):Prop:=match g with
 | false=>f v
 | true=>match v with
  | .p (.bool q)=>two q (f (.p (.bool true))) (f (.p (.bool false)))
  | .tup []=>f (.tup [])
  | _=>False
theorem splitG_ok {g:Bool} {v:AV} {f:AV→Prop} (h:splitG g v f):f v:=by
 cases g with
 | false=>exact h
 | true =>
  unfold splitG at h
  split at h
  ·rename_i h';cases h'
  ·split at h
   ·rename_i q
    cases q
    ·exact h
    ·exact h
   ·exact h
   ·exact h.elim
abbrev ARd:=List (Nat×List (Nat×AV)×AV)
noncomputable def recheckS (T:Tab) (call:ACall) (ops:List Oper) (an:List Nat) (K:List ABlk) (k:Prop) (x:Nat×List (Nat×AV)×AV) (_:ARd) (ih:Prop):Prop :=
 match mem an x.1 with
  | true=>ih
  | false=>match nth ops x.1 with
   | none=>False
   | some o=>aopG T call ops o x.2.1 K (fun v' _=>v'=x.2.2) (fun _ _=>False)∧ih
noncomputable def recheck (T:Tab) (call:ACall) (ops:List Oper) (an:List Nat) (K:List ABlk) (k:Prop) (l:ARd):Prop:=List.rec (motive:=fun _=>Prop) k (recheckS T call ops an K k) l
theorem recheck_cons (T:Tab) (call:ACall) (ops:List Oper) (an:List Nat) (K:List ABlk) (k:Prop) (q:Nat) (t:List (Nat×AV)) (v:AV) (r:ARd):recheck T call ops an K k ((q,t,v)::r) =
  (match mem an q with
  | true=>recheck T call ops an K k r
  | false=>match nth ops q with
   | none=>False
   | some o=>aopG T call ops o t K (fun v' _=>v'=v) (fun _ _=>False)∧recheck T call ops an K k r):=rfl
noncomputable def fNs (i:Nat) (c:Nat) (_:List Nat) (ih:(Nat→Prop)→Prop) (k:Nat→Prop):Prop:=match Nat.beq i c with
 | true=>k c
 | false=>ih k
def cand:List Nat:=0::1::2::3::4::5::6::7::8::9::10::11::12::13::14::15::16::17::18::19::20::21::22::23::24::25::26::27::28::29::30::31::32::33::34::35::36::37::38::39::40::41::42::43::44::45::46::47::48::49::50::51::52::53::54::55::56::57::58::59::[]
noncomputable def fN (i:Nat):(Nat→Prop)→Prop:=List.rec (motive:=fun _=>(Nat→Prop)→Prop) (fun k=>k i) (fNs i) cand
noncomputable def fNLs (a:Nat) (_:List Nat) (ih:(List Nat→Prop)→Prop) (k:List Nat→Prop):Prop:=fN a fun a'=>ih fun r'=>k (a'::r')
noncomputable def fNL (l:List Nat):(List Nat→Prop)→Prop:=List.rec (motive:=fun _=>(List Nat→Prop)→Prop) (fun k=>k []) fNLs l
theorem fNs_eq (i:Nat) (l:List Nat) (k:Nat→Prop):List.rec (motive:=fun _=>(Nat→Prop)→Prop) (fun k=>k i) (fNs i) l k=k i:=by
 induction l with
 | nil=>rfl
 | cons c l ih =>
  show fNs i c l _ k=k i
  unfold fNs
  cases h:Nat.beq i c with
  | true=>rw [Nat.eq_of_beq_eq_true h]
  | false=>exact ih
theorem fN_eq (i:Nat) (k:Nat→Prop):fN i k=k i:=by
 exact fNs_eq i cand k
theorem fNL_eq (l:List Nat) (k:List Nat→Prop):fNL l k=k l:=by
 induction l generalizing k with
 | nil=>rfl
 | cons a l ih =>
  show fN a (fun a'=>fNL l fun r'=>k (a'::r'))=_
  rw [fN_eq,ih]
noncomputable def addKs (acc:List (List Nat)) (e:Nat) (_:List Nat) (ih:List Nat→(List Nat→Prop)→Prop) (out:List Nat) (k:List Nat→Prop):Prop:=match mem out e with
 | true=>ih out k
 | false=>fNL (unN (ancOf acc e) (e::out)) fun o=>ih o k
noncomputable def addK (acc:List (List Nat)) (l:List Nat):List Nat→(List Nat→Prop)→Prop:=List.rec (motive:=fun _=>List Nat→(List Nat→Prop)→Prop) (fun out k=>k out) (addKs acc) l
theorem addK_eq (acc:List (List Nat)) (l out:List Nat) (k:List Nat→Prop):addK acc l out k=k (addAll acc l out):=by
 induction l generalizing out with
 | nil=>rfl
 | cons e l ih =>
  show addKs acc e l (addK acc l) out k=_
  unfold addKs
  simp only [addAll]
  cases mem out e with
  | true=>exact ih out
  | false=>simp only [fNL_eq];exact ih _
noncomputable def ancsKs (o:Oper) (_:List Oper) (ih:List (List Nat)→(List (List Nat)→Prop)→Prop) (acc:List (List Nat)) (k:List (List Nat)→Prop):Prop:=addK acc (edges o) [] fun l=>fL (snoc acc l) fun a=>ih a k
noncomputable def ancsK (l:List Oper):List (List Nat)→(List (List Nat)→Prop)→Prop:=List.rec (motive:=fun _=>List (List Nat)→(List (List Nat)→Prop)→Prop) (fun acc k=>k acc) ancsKs l
theorem ancsK_eq (l:List Oper) (acc:List (List Nat)) (k:List (List Nat)→Prop):ancsK l acc k=k (ancs l acc):=by
 induction l generalizing acc with
 | nil=>rfl
 | cons o l ih =>
  show ancsKs o l (ancsK l) acc k=_
  unfold ancsKs
  rw [addK_eq,fL_eq]
  exact ih _
noncomputable def eachS (F:Nat→Prop) (a:Nat) (_:List Nat) (ih:Nat→Prop) (i:Nat):Prop:=F i∧ih a
noncomputable def each (F:Nat→Prop) (i:Nat) (l:List Nat):Prop:=List.rec (motive:=fun _=>Nat→Prop) (fun i=>F i) (eachS F) l i
theorem each_ok {F:Nat→Prop} {i:Nat} {l:List Nat} (h:each F i l):∀ j∈i::l,F j:=by
 induction l generalizing i with
 | nil=>intro j hj;simp at hj;subst hj;exact h
 | cons a l ih =>
  intro j hj
  obtain⟨h1,h2⟩:F i∧each F a l:=h
  cases List.mem_cons.1 hj with
  | inl e=>exact e▸h1
  | inr e=>exact ih h2 j e
abbrev ADr:=List Nat→ARd→List (Nat×AV)→List ABlk→(Ex→AS→Prop)→Prop
noncomputable def adraw0 (_:List Nat) (_:ARd) (_:List (Nat×AV)) (_:List ABlk) (_:Ex→AS→Prop):Prop:=False
noncomputable def adrawQ (T:Tab) (call:ACall) (N:Nat) (ops:List Oper) (ih:ADr) (done:List Nat) (rd:ARd) (t:List (Nat×AV)) (K:List ABlk) (Q:Ex→AS→Prop) (i:Nat):Prop :=
 match nth ops i with
  | none=>False
  | some o=>bound N o.dst <| match kind o.op with
   | 0=>aopG T call ops o t K (fun v K'=>splitG (isGd i ops) v fun v=>ih (i::done) rd (put t o.dst v) K' Q) (fun _ _=>False)
   | 1=>aopG T call ops o t K (fun v K'=>splitG (isGd i ops) v fun v=>ih (i::done) ((i,t,v)::rd) (put t o.dst v) K' Q) (fun _ _=>False)
   | _=>False
noncomputable def adrawL (T:Tab) (call:ACall) (N:Nat) (ops:List Oper) (ac:List (List Nat)) (ih:ADr) (done:List Nat) (rd:ARd) (t:List (Nat×AV)) (K:List ABlk) (Q:Ex→AS→Prop) (i:Nat):Prop :=
 match nth ops i with
  | none=>False
  | some o=>bound N o.dst <| aopG T call ops o t K (fun v K'=>splitG (isGd i ops) v fun v=>recheck T call ops (ancOf ac i) K' (ih (i::done) rd (put t o.dst v) K' Q) rd) (fun v K'=>Q (.pan v) ⟨[],K'⟩)
noncomputable def adrawS (T:Tab) (call:ACall) (N:Nat) (ops:List Oper) (ac:List (List Nat)) (_:Nat) (ih:ADr) (done:List Nat) (rd:ARd) (t:List (Nat×AV)) (K:List ABlk) (Q:Ex→AS→Prop):Prop :=
 match pickQ ops ac done (upto (len ops)) with
 | some i=>fN i (adrawQ T call N ops ih done rd t K Q)
 | none=>match loudN ops ac done (upto (len ops)) with
  | []=>Q .norm ⟨t,K⟩
  | i::r=>each (fun i=>fN i (adrawL T call N ops ac ih done rd t K Q)) i r
noncomputable def adraw (T:Tab) (call:ACall) (N:Nat) (ops:List Oper) (ac:List (List Nat)) (n:Nat):ADr:=Nat.rec (motive:=fun _=>ADr) adraw0 (adrawS T call N ops ac) n
theorem adraw_succ (T:Tab) (call:ACall) (N:Nat) (ops:List Oper) (ac:List (List Nat)) (n:Nat):adraw T call N ops ac (n+1)=adrawS T call N ops ac n (adraw T call N ops ac n):=rfl
def EnvOk (w:World) (m:Mp) (t:List (Nat×AV)) (tmps:Array Value):Prop:=∀ d,V w m (look t d) (tmps.getD d undef)
def Mp.Sub (m m':Mp):Prop:=(∀ b,m'.I b→m.I b∨∃ r,(m.L r).isLive∧m.ρ r=b)∧∀ r,(m'.L r).isLive→(m.L r).isLive∧m'.ρ r=m.ρ r
theorem Mp.Sub.refl (m:Mp):m.Sub m:=⟨fun _ h=>.inl h,fun _ h=>⟨h,rfl⟩⟩
theorem Mp.Sub.trans {m m1 m2:Mp} (h:m.Sub m1) (k:m1.Sub m2):m.Sub m2 :=
 ⟨fun b hb=>by
  rcases k.1 b hb with h1|⟨r,h1,h2⟩
  ·exact h.1 b h1
  ·exact .inr ⟨r,(h.2 r h1).1,(h.2 r h1).2▸h2⟩,fun r hr=>⟨(h.2 r (k.2 r hr).1).1,(k.2 r hr).2.trans (h.2 r (k.2 r hr).1).2⟩⟩
theorem Mp.Sub.tr {w:World} {m m':Mp} {H:Nat→ABlk} (h:Tr w m w m') (hS:St w m' H):m.Sub m' :=
 ⟨fun b hb=>by
  rcases h.newI b hb with h1|h1|h1
  ·exact .inl h1
  ·exact .inr h1
  ·have:=hS.Ilt b hb;omega,fun r hr=>by
  rcases h.newρ r hr with h1|h1
  ·exact h1
  ·have:=hS.lt r hr;omega⟩
theorem Mp.Sub.cut (m:Mp) (n:Nat):m.Sub (m.cut n):=⟨fun _ h=>.inl h,fun r h=>by
 by_cases hr:r<n
 ·simp only [Mp.cut,hr,if_true] at h;exact⟨h,rfl⟩
 ·simp [Mp.cut,hr,Inf.isLive] at h⟩
def Le (kb:Nat) (s s':AS):Prop :=
 ∀ (we:World) (me:Mp),(∀ r,kb≤r→me.L r=.absent)→∀ (w:World) (m:Mp) (tmps:Array Value),Tr we me w m→St w m (hp s.K)→EnvOk w m s.t tmps →
  ∃ m',Tr we me w m'∧St w m' (hp s'.K)∧EnvOk w m' s'.t tmps∧m.Sub m'
structure LoopW (kb:Nat) (F:AS→(Ex→AS→Prop)→Prop) (s:AS) (Q:Ex→AS→Prop):Prop where
 out:∀ X:AS→Prop,(∀ s,F s (fun e s'=>match e with | .norm=>X s'|e=>Q e s')→X s)→(∀ s s',Le kb s s'→X s'→X s)→X s
def contB (id:Nat) (Q:Ex→AS→Prop):Ex→AS→Prop
 | .exit n,s=>match Nat.beq n id with
  | true=>Q .norm s
  | false=>Q (.exit n) s
 | .norm,s=>Q .norm s
 | .ret,s=>Q .ret s
 | .pan v,s=>Q (.pan v) s
noncomputable def fEs (x:Nat×AV) (_:List (Nat×AV)) (ih:List Nat→(List (Nat×AV)→Prop)→Prop) (seen:List Nat) (k:List (Nat×AV)→Prop):Prop :=
 match x with
 | (d,v)=>match mem seen d with
  | true=>ih seen k
  | false=>fV v fun v'=>ih (d::seen) fun r'=>k ((d,v')::r')
noncomputable def fE (seen:List Nat) (t:List (Nat×AV)):(List (Nat×AV)→Prop)→Prop:=List.rec (motive:=fun _=>List Nat→(List (Nat×AV)→Prop)→Prop) (fun _ k=>k []) fEs t seen
theorem fE_cons (seen:List Nat) (d:Nat) (v:AV) (r:List (Nat×AV)) (k:List (Nat×AV)→Prop):fE seen ((d,v)::r) k =
  (match mem seen d with
  | true=>fE seen r k
  | false=>fV v fun v'=>fE (d::seen) r fun r'=>k ((d,v')::r')):=rfl
abbrev AW:=AS→(Ex→AS→Prop)→Prop
section
variable (T:Tab) (call:ACall) (kb N:Nat)
noncomputable def wSkip (s:AS) (Q:Ex→AS→Prop):Prop:=Q .norm s
noncomputable def wRegion (_:Nat) (ops:Array Oper) (draw:Bool) (s:AS) (Q:Ex→AS→Prop):Prop:=match draw with
  | false=>aops T call N ops.toList ops.toList s.t s.K Q
  | true=>ancsK ops.toList [] fun ac=>match drawC ops.toList ac with
   | true=>adraw T call N ops.toList ac (len ops.toList+1) [] [] s.t s.K Q
   | false=>False
noncomputable def wSeqK (b:AW) (Q:Ex→AS→Prop) (e:Ex) (s':AS):Prop:=match e with
  | .norm=>b s' Q
  | .exit n=>Q (.exit n) s'
  | .ret=>Q .ret s'
  | .pan v=>Q (.pan v) s'
noncomputable def wSeq (_ _:Code) (a b:AW) (s:AS) (Q:Ex→AS→Prop):Prop:=a s (wSeqK b Q)
noncomputable def wCond (c:Operand) (_ _:Code) (a b:AW) (s:AS) (Q:Ex→AS→Prop):Prop:=match c with
  | .tmp i=>match look s.t i with
   | .p (.bool q)=>two q (a ⟨know s.t i true,s.K⟩ Q) (b ⟨know s.t i false,s.K⟩ Q)
   | _=>False
  | .const (.bool q)=>two q (a s Q) (b s Q)
  | _=>False
noncomputable def wBlock (id:Nat) (_:Code) (a:AW) (s:AS) (Q:Ex→AS→Prop):Prop:=a s (contB id Q)
noncomputable def wLoop (_:Code) (c:AW) (s:AS) (Q:Ex→AS→Prop):Prop:=fE [] s.t fun t=>fK s.K fun K=>LoopW kb c ⟨t,K⟩ Q
def noRF:Code→Bool
 | .rangeFunc _ _ _ _=>false
 | .seq a b=>noRF a&&noRF b
 | .cond _ a b=>noRF a&&noRF b
 | .block _ a=>noRF a
 | .loop a=>noRF a
 | .scope a=>noRF a
 | _=>true
def endK (s:AS) (Q:Ex→AS→Prop) (K:List ABlk):LSt→Prop
 | .ready=>Q .norm ⟨s.t,K⟩
 | .ret=>Q .ret ⟨s.t,K⟩
 | .exit n=>Q (.exit n) ⟨s.t,K⟩
 | _=>False
noncomputable def endRF (s:AS) (Q:Ex→AS→Prop) (r:Nat) (o:AO) (K:List ABlk):Prop:=match o with
 | .ret _=>match nth K r with
  | some (.lp st env N ps a b)=>fL (setN K r (.lp .over env N ps a b)) fun K'=>endK s Q K' st
  | _=>False
 | .pan v=>Q (.pan v) ⟨s.t,K⟩
noncomputable def wRangeF (g:Operand) (ps:Array Tmp) (assign body:Code) (_ _:AW) (s:AS) (Q:Ex→AS→Prop):Prop :=
 match noRF assign&&noRF body with
 | false=>False
 | true=>fE [] s.t fun env=>fN (len s.K) fun r=>fL (snoc s.K (.lp .ready env N ps assign body)) fun K'=>match ev s.t g with
  | .fn f first cap=>fVL (catL first (.yld r::cap)) fun args=>callF call f args K' (endRF s Q r)
  | .p (.fn f)=>callF call f [.yld r] K' (endRF s Q r)
  | _=>False
noncomputable def wExit (n:Nat) (s:AS) (Q:Ex→AS→Prop):Prop:=Q (.exit n) s
noncomputable def wScope (_:Code) (a:AW) (s:AS) (Q:Ex→AS→Prop):Prop:=a s Q
noncomputable def wLabel (_:Nat) (s:AS) (Q:Ex→AS→Prop):Prop:=Q .norm s
noncomputable def wNo (_:Nat) (_:AS) (_:Ex→AS→Prop):Prop:=False
noncomputable def wRet (s:AS) (Q:Ex→AS→Prop):Prop:=Q .ret s
noncomputable def wRefuse (_:String) (_:AS) (_:Ex→AS→Prop):Prop:=False
noncomputable def awp (c:Code):AW:=Code.rec (motive:=fun _=>AW) wSkip (wRegion T call N) wSeq wCond wBlock (wLoop kb) (wRangeF call N) wExit wScope wLabel wNo wRet wRefuse c
end
noncomputable def ares1 (T:Tab) (t:List (Nat×AV)) (K:List ABlk) (r:ResultVar) (k:AV→Prop):Prop :=
 match r with
 | .tmp i=>fV (look t i) k
 | .cell i ty=>opLoad T K (fun v _=>k v) ty (look t i)
noncomputable def aresLs (T:Tab) (t:List (Nat×AV)) (K:List ABlk) (r:ResultVar) (_:List ResultVar) (ih:(List AV→Prop)→Prop) (k:List AV→Prop):Prop:=ares1 T t K r fun v=>ih (fun vs=>k (v::vs))
noncomputable def aresL (T:Tab) (t:List (Nat×AV)) (K:List ABlk) (k:List AV→Prop) (l:List ResultVar):Prop:=List.rec (motive:=fun _=>(List AV→Prop)→Prop) (fun k=>k []) (aresLs T t K) l k
theorem aresL_cons (T:Tab) (t:List (Nat×AV)) (K:List ABlk) (k:List AV→Prop) (r:ResultVar) (l:List ResultVar):aresL T t K k (r::l)=ares1 T t K r fun v=>aresL T t K (fun vs=>k (v::vs)) l:=rfl
noncomputable def ares (T:Tab) (fn:Func) (s:AS) (k:AV→Prop):Prop :=
 aresL T s.t s.K (fun vs=>match vs with
  | [v]=>k v
  | vs=>k (.tup vs)) fn.results.toList
def frame0:Nat→List AV→List (Nat×AV)
 | _,[]=>[]
 | i,a::l=>(i,a)::frame0 (i+1) l
noncomputable def abody (T:Tab) (call:ACall) (fn:Func) (args:List AV) (K:List ABlk) (k:AO→List ABlk→Prop):Prop :=
 match fn.body with
 | none=>False
 | some c=>match Nat.ble (len args) fn.ntmps with
  | false=>False
  | true=>fK K fun K=>awp T call (len K) fn.ntmps c ⟨frame0 0 args,K⟩ fun e s=>match e with
   | .norm=>ares T fn s fun v=>fK s.K fun K=>k (.ret v) K
   | .ret=>ares T fn s fun v=>fK s.K fun K=>k (.ret v) K
   | .pan v=>fV v fun v=>fK s.K fun K=>k (.pan v) K
   | .exit _=>False
def bindPs (N:Nat):List Nat→List AV→List (Nat×AV)→Option (List (Nat×AV))
 | [],[],t=>some t
 | p::ps,v::vs,t=>match Nat.blt p N with
  | true=>bindPs N ps vs ((p,v)::t)
  | false=>none
 | _,_,_=>none
def rd2 (K:List ABlk) (r:Nat) (k:LSt→List (Nat×AV)→Nat→Array Tmp→Code→Code→Prop):Prop:=match nth K r with
 | some (.lp st env N ps a b)=>k st env N ps a b
 | _=>False
noncomputable def aroundE (k:AO→List ABlk→Prop) (r:Nat) (e:Ex) (s:AS):Prop:=rd2 s.K r fun _ env N ps a b=>match e with
 | .norm=>fL (setN s.K r (.lp .ready env N ps a b)) fun K=>fK K fun K=>k (.ret (.p (.bool true))) K
 | .ret=>fL (setN s.K r (.lp .ret env N ps a b)) fun K=>fK K fun K=>k (.ret (.p (.bool false))) K
 | .exit n=>fL (setN s.K r (.lp (.exit n) env N ps a b)) fun K=>fK K fun K=>k (.ret (.p (.bool false))) K
 | .pan _=>False
noncomputable def aroundB (T:Tab) (call:ACall) (k:AO→List ABlk→Prop) (kb N0 r:Nat) (body:Code) (e:Ex) (s:AS):Prop:=match e with
 | .norm=>rd2 s.K r fun st env N ps a b=>match st with
  | .ready=>fL (setN s.K r (.lp .busy env N ps a b)) fun K=>awp T call kb N0 body ⟨s.t,K⟩ fun e s=>match e with
   | .pan _=>False
   | e=>aroundE k r e s
  | _=>False
 | _=>False
noncomputable def around (T:Tab) (call:ACall) (r:Nat) (args:List AV) (K:List ABlk) (k:AO→List ABlk→Prop):Prop :=
 rd2 K r fun st env N ps assign body=>match st with
  | .ready=>match bindPs N ps.toList args env with
   | some t=>match noRF assign&&noRF body with
    | true=>fK K fun K=>awp T call (len K) N assign ⟨t,K⟩ (aroundB T call k (len K) N r body)
    | false=>False
   | none=>False
  | _=>False
noncomputable def acallS (T:Tab) (G:FuncId→Option (List AV→List ABlk→(AO→List ABlk→Prop)→Prop)) (_:Nat) (ih:ACall) (f:FuncId) (args:List AV) (K:List ABlk) (k:AO→List ABlk→Prop):Prop :=
 match Nat.blt f 1000000000 with
 | true=>match G f with
  | some g=>g args K k
  | none=>match T.f.get f with
   | some fn=>abody T ih fn args K k
   | none=>False
 | false=>around T ih (Nat.sub f 1000000000) args K k
noncomputable def acall0 (_:FuncId) (_:List AV) (_:List ABlk) (_:AO→List ABlk→Prop):Prop:=False
noncomputable def acall (T:Tab) (G:FuncId→Option (List AV→List ABlk→(AO→List ABlk→Prop)→Prop)) (n:Nat):ACall:=Nat.rec (motive:=fun _=>ACall) acall0 (acallS T G) n
theorem acall_succ (T:Tab) (G:FuncId→Option (List AV→List ABlk→(AO→List ABlk→Prop)→Prop)) (n:Nat) (f:FuncId) (args:List AV) (K:List ABlk) (k:AO→List ABlk→Prop):acall T G (n+1) f args K k =
  acallS T G n (acall T G n) f args K k:=rfl
end Go.AE
namespace Go.AE
def okV:Nat→Value→Value→Prop
 | 0,.int q _,.int q' _=>q=q'
 | 1,.bool _,.bool _=>True
 | 2,.string _,.string _=>True
 | _,_,_=>False
def eqV:Value→Value→Bool
 | .int _ a,.int _ b=>a==b
 | .bool a,.bool b=>a==b
 | .string a,.string b=>a==b
 | _,_=>false
theorem okV0 {x y:Value} (h:okV 0 x y):∃ q a b,x=.int q a∧y=.int q b:=by
 cases x<;>first|exact h.elim|(cases y<;>first|exact h.elim|exact⟨_,_,_,rfl,by rw [show _=_ from h]⟩)
theorem okV1 {x y:Value} (h:okV 1 x y):∃ a b,x=.bool a∧y=.bool b:=by
 cases x<;>first|exact h.elim|(cases y<;>first|exact h.elim|exact⟨_,_,rfl,rfl⟩)
theorem okV2 {x y:Value} (h:okV 2 x y):∃ a b,x=.string a∧y=.string b:=by
 cases x<;>first|exact h.elim|(cases y<;>first|exact h.elim|exact⟨_,_,rfl,rfl⟩)
def segEq (A B:Array Value) (off n:Nat):Bool:=(List.range n).all fun j=>eqV (A.getD (off+j) undef) (B.getD (off+j) undef)
structure SegOk (ks:List Nat) (A B:Array Value) (off:Nat):Prop where
 a:off+ks.length≤A.size
 b:off+ks.length≤B.size
 c:∀ j,j<ks.length→okV (ks.getD j 0) (A.getD (off+j) undef) (B.getD (off+j) undef)
def EqFlat (P:Program) (t:TypeId) (ks:List Nat):Prop :=
 P.eqGuardType P.depth t=false∧∀ (w:World) (A B:Array Value),A.size=ks.length→B.size=ks.length→SegOk ks A B 0→(Op.equal t (.agg A) (.agg B)).run P w=.ok (segEq A B 0 ks.length) w
def Flat (P:Program) (n:Nat) (t:TypeId) (ks:List Nat):Prop :=
 ∀ d,n≤d→∀ (w:World) (A B:Array Value) (off:Nat),SegOk ks A B off →
  (do let x ← Go.part t A off;let y ← Go.part t B off;Op.equalIn d t x y).run P w=.ok (segEq A B off ks.length) w
theorem segEq_append (A B:Array Value) (off m n:Nat):segEq A B off (m+n)=(segEq A B off m&&segEq A B (off+m) n):=by
 unfold segEq
 rw [List.range_add,List.all_append,List.all_map]
 congr 1
 simp [Function.comp_def,Nat.add_assoc]
theorem SegOk.left {k l:List Nat} {A B:Array Value} {off:Nat} (h:SegOk (k++l) A B off):SegOk k A B off:=by
 obtain⟨a,b,c⟩:=h
 simp only [List.length_append] at a b c
 refine⟨by omega,by omega,fun j hj=>?_⟩
 have:=c j (by omega)
 rwa [List.getD_eq_getElem?_getD,List.getElem?_append_left hj,← List.getD_eq_getElem?_getD] at this
theorem SegOk.right {k l:List Nat} {A B:Array Value} {off:Nat} (h:SegOk (k++l) A B off):SegOk l A B (off+k.length):=by
 obtain⟨a,b,c⟩:=h
 simp only [List.length_append] at a b c
 refine⟨by omega,by omega,fun j hj=>?_⟩
 have:=c (k.length+j) (by omega)
 rwa [List.getD_eq_getElem?_getD,List.getElem?_append_right (by omega),Nat.add_sub_cancel_left,← List.getD_eq_getElem?_getD,← Nat.add_assoc] at this
def flatFs (P:Program) (F:TypeId→Option (List Nat)):List Field→Nat→Option (List Nat)
 | [],_=>some []
 | f :: l, o => match f.name != "_", Nat.beq f.offset o, F f.type with
  | true,true,some ks=>match flatFs P F l (o+ks.length) with
   | some r=>some (ks++r)
   | none=>none
  | _,_,_=>none
def reps0 (ks:List Nat):Nat→List Nat
 | 0=>[]
 | n+1=>ks++reps0 ks n
def flatK (P:Program):Nat→TypeId→Option (List Nat)
 | 0,_=>none
 | n+1,t=>match P.info? t,P.underlying t with
  | some i,some d=>match (match d with
   | .int _=>some [0]
   | .bool=>some [1]
   | .string=>some [2]
   | .array len e=>match flatK P n e,P.info? e with
    | some ks,some ei=>match Nat.beq ei.size ks.length with
     | true=>some (reps0 ks len)
     | false=>none
    | _,_=>none
   | .struct fields=>match P.stoodInHeld t with
    | true=>none
    | false=>flatFs P (flatK P n) fields.toList 0
   | _=>none) with
   | some ks=>match Nat.beq i.size ks.length with
    | true=>some ks
    | false=>none
   | none=>none
  | _,_=>none
def flatB (P:Program) (t:TypeId) (ks:List Nat):Bool:=!P.eqGuardType P.depth t&&(flatK P 10 t==some ks)&&(match P.underlying t with
 | some (.struct _)=>true
 | some (.array _ _)=>true
 | _=>false)
theorem isAgg_run' {P:Program} {t:TypeId} {d:TypeDesc} (hu:P.underlying t=some d) (w:World):(isAgg t).run P w=.ok (match d with | .struct _ | .array _ _=>true|_=>false) w:=by
 unfold isAgg
 rw [Sem.run_bind,run_underlying hu]
 cases d<;>rfl
theorem part_scal {P:Program} {t:TypeId} {d:TypeDesc} (hu:P.underlying t=some d) (hd:(match d with | .struct _ | .array _ _=>true|_=>false)=false) {A:Array Value} {off:Nat} (h:off<A.size) (w:World) :
  (Go.part t A off).run P w=.ok (A.getD off undef) w:=by
 unfold Go.part
 rw [Sem.run_bind,isAgg_run' hu,hd]
 simp [h]
theorem part_agg {P:Program} {t:TypeId} {d:TypeDesc} {i:TypeInfo} (hi:P.info? t=some i) (hu:P.underlying t=some d) (hd:(match d with | .struct _ | .array _ _=>true|_=>false)=true) (A:Array Value) (off:Nat) (w:World) :
  (Go.part t A off).run P w=.ok (.agg (A.extract off (off+i.size))) w:=by
 unfold Go.part
 rw [Sem.run_bind,isAgg_run' hu,hd]
 simp [sizeOf,typeInfo,hi]
theorem ext_get (A:Array Value) (off n j:Nat) (hj:j<n):(A.extract off (off+n)).getD j undef=A.getD (off+j) undef:=by
 simp only [Array.getD_eq_getD_getElem?,Array.getElem?_extract]
 by_cases h:off+j<A.size
 ·rw [if_pos (by omega)]
 ·rw [if_neg (by omega),Array.getElem?_eq_none (by omega)]
theorem seg_ext {ks:List Nat} {A B:Array Value} {off:Nat} (h:SegOk ks A B off):SegOk ks (A.extract off (off+ks.length)) (B.extract off (off+ks.length)) 0∧segEq (A.extract off (off+ks.length)) (B.extract off (off+ks.length)) 0 ks.length=segEq A B off ks.length:=by
 obtain⟨a,b,c⟩:=h
 refine⟨⟨by simp;omega,by simp;omega,fun j hj=>?_⟩,?_⟩
 ·rw [Nat.zero_add,ext_get _ _ _ _ hj,ext_get _ _ _ _ hj];exact c j hj
 ·unfold segEq
  rw [Bool.eq_iff_iff,List.all_eq_true,List.all_eq_true]
  constructor
  ·intro h j hj
   have h2:=List.mem_range.1 hj
   have:=h j hj
   rwa [Nat.zero_add,ext_get _ _ _ _ h2,ext_get _ _ _ _ h2] at this
  ·intro h j hj
   have h2:=List.mem_range.1 hj
   rw [Nat.zero_add,ext_get _ _ _ _ h2,ext_get _ _ _ _ h2]
   exact h j hj
theorem flat_scal {P:Program} {n:Nat} {t:TypeId} {d:TypeDesc} {k:Nat} (hu:P.underlying t=some d) (hd:(match d with | .struct _ | .array _ _=>true|_=>false)=false)
  (h:∀ (d':Nat) (x y:Value) (w:World),okV k x y→(Op.equalIn (d'+1) t x y).run P w=.ok (eqV x y) w):Flat P (n+1) t [k]:=by
 intro d' hn w A B off hs
 obtain⟨d',rfl⟩:∃ e,d'=e+1:=⟨d' - 1,by omega⟩
 have h1:=hs.a
 have h2:=hs.b
 have h3:=hs.c 0 (by simp)
 simp only [List.length_singleton] at h1 h2
 rw [Sem.run_bind,part_scal hu hd (by omega)]
 simp only [Result.andThen_ok]
 rw [Sem.run_bind,part_scal hu hd (by omega)]
 simp only [Result.andThen_ok]
 rw [h d' _ _ w (by simpa using h3)]
 simp [segEq]
theorem flat_agg {P:Program} {n:Nat} {t:TypeId} {d:TypeDesc} {i:TypeInfo} {ks:List Nat} (hi:P.info? t=some i) (hu:P.underlying t=some d) (hd:(match d with | .struct _ | .array _ _=>true|_=>false)=true) (hsz:i.size=ks.length)
  (h:∀ (d':Nat),n≤d'→∀ (w:World) (A B:Array Value),SegOk ks A B 0→(Op.equalIn (d'+1) t (.agg A) (.agg B)).run P w=.ok (segEq A B 0 ks.length) w):Flat P (n+1) t ks:=by
 intro d' hn w A B off hs
 obtain⟨d',rfl⟩:∃ e,d'=e+1:=⟨d' - 1,by omega⟩
 rw [Sem.run_bind,part_agg hi hu hd]
 simp only [Result.andThen_ok]
 rw [Sem.run_bind,part_agg hi hu hd]
 simp only [Result.andThen_ok,hsz]
 rw [h d' (by omega) w _ _ (seg_ext hs).1,(seg_ext hs).2]
theorem andThen_inv {α β:Type} {X:Result α} {f:α→World→Result β} {v:β} {w:World} (h:X.andThen f=.ok v w):∃ a w1,X=.ok a w1∧f a w1=.ok v w:=by
 cases X with
 | ok a w1=>exact⟨a,w1,rfl,h⟩
 | _=>cases h
abbrev ES:=Option Bool×PUnit
def stY:Bool→ForInStep ES
 | true=>.yield (none,())
 | false=>.done (some false,())
def stE:Bool→ES
 | true=>(none,())
 | false=>(some false,())
theorem eq_body {P:Program} {d:Nat} {t:TypeId} {A B:Array Value} {o:Nat} {w:World} {b:Bool} (h:(do let x ← Go.part t A o;let y ← Go.part t B o;Op.equalIn d t x y).run P w=.ok b w) :
  (do
   let x ← Go.part t A o
   let y ← Go.part t B o
   let c ← Op.equalIn d t x y
   if (!c)=true then pure (ForInStep.done ((some false,()):ES)) else pure (ForInStep.yield ((none,()):ES)):Sem (ForInStep ES)).run P w=.ok (stY b) w:=by
 rw [Sem.run_bind] at h
 obtain⟨x,w1,h1,h2⟩:=andThen_inv h
 rw [Sem.run_bind] at h2
 obtain⟨y,w2,h3,h4⟩:=andThen_inv h2
 rw [Sem.run_bind,h1]
 simp only [Result.andThen_ok]
 rw [Sem.run_bind,h3]
 simp only [Result.andThen_ok]
 rw [Sem.run_bind,h4]
 simp only [Result.andThen_ok]
 cases b<;>simp [stY]
theorem flat_struct {P:Program} {n:Nat} {F:TypeId→Option (List Nat)} (hF:∀ t ks,F t=some ks→Flat P n t ks) {d:Nat} (hd:n≤d) (w:World) (A B:Array Value) :
  ∀ (l:List Field) (o:Nat) (ks:List Nat),flatFs P F l o=some ks→SegOk ks A B o →
  (forIn l ((none,()):ES) (fun (f:Field) (_:ES) =>
   if f.name ≠ "_" then do
    let x ← Go.part f.type A f.offset
    let y ← Go.part f.type B f.offset
    let c ← Op.equalIn d f.type x y
    if (!c)=true then pure (ForInStep.done ((some false,()):ES)) else pure (ForInStep.yield ((none,()):ES))
   else pure (ForInStep.yield ((none,()):ES)))).run P w=.ok (stE (segEq A B o ks.length)) w
 | [],o,ks,h,hs=>by
  simp only [flatFs,Option.some.injEq] at h
  subst h
  rfl
 | f::l,o,ks,h,hs=>by
  simp only [flatFs] at h
  split at h
  ·rename_i ks1 hn ho hf
   split at h
   ·rename_i r hr
    injection h with h
    subst h
    have e:=Nat.eq_of_beq_eq_true ho
    subst e
    have h1:=eq_body (hF _ _ hf d hd w A B f.offset hs.left)
    have ih:=flat_struct hF hd w A B l _ r hr hs.right
    rw [List.length_append,segEq_append]
    have hn' : f.name ≠ "_" := by simpa using hn
    rw [List.forIn_cons,Sem.run_bind]
    rw [if_pos hn',h1]
    simp only [Result.andThen_ok]
    cases segEq A B f.offset ks1.length with
    | true=>simpa [stY] using ih
    | false=>simp [stY,stE]
   ·cases h
  ·cases h
theorem reps0_len (ks:List Nat) (n:Nat):(reps0 ks n).length=n*ks.length:=by
 induction n with
 | zero=>simp [reps0]
 | succ n ih=>simp only [reps0,List.length_append,ih,Nat.succ_mul];omega
theorem flat_array {P:Program} {n:Nat} {e:TypeId} {ks:List Nat} (hF:Flat P n e ks) {d:Nat} (hd:n≤d) (w:World) (A B:Array Value) :
  ∀ (m i:Nat),SegOk (reps0 ks m) A B (i*ks.length) →
  (forIn (List.range' i m) ((none,()):ES) (fun (i:Nat) (_:ES)=>do
    let x ← Go.part e A (i*ks.length)
    let y ← Go.part e B (i*ks.length)
    let c ← Op.equalIn d e x y
    if (!c)=true then pure (ForInStep.done ((some false,()):ES)) else pure (ForInStep.yield ((none,()):ES)))).run P w=.ok (stE (segEq A B (i*ks.length) (m*ks.length))) w
 | 0,i,hs=>by
  rw [Nat.zero_mul]
  rfl
 | m+1,i,hs=>by
  have h1:=eq_body (hF d hd w A B _ hs.left)
  have ih:=flat_array hF hd w A B m (i+1) (by rw [Nat.succ_mul];exact hs.right)
  rw [show (m+1)*ks.length=ks.length+m*ks.length by rw [Nat.succ_mul];omega,segEq_append]
  rw [Nat.succ_mul] at ih
  rw [List.range'_succ,List.forIn_cons,Sem.run_bind,h1]
  simp only [Result.andThen_ok]
  cases segEq A B (i*ks.length) ks.length with
  | true=>simpa [stY] using ih
  | false=>simp [stY,stE]
theorem flatK_ok {P:Program}:∀ (n:Nat) (t:TypeId) (ks:List Nat),flatK P n t=some ks→Flat P n t ks∧∃ i,P.info? t=some i∧i.size=ks.length:=by
 intro n
 induction n with
 | zero=>intro t ks h;simp [flatK] at h
 | succ n ih =>
  intro t ks h
  simp only [flatK] at h
  split at h
  ·rename_i i d hi hu
   split at h
   ·rename_i ks' hm
    split at h
    ·rename_i hsz
     injection h with h
     subst h
     have hsz:=Nat.eq_of_beq_eq_true hsz
     refine⟨?_,i,hi,hsz⟩
     split at hm
     ·injection hm with hm
      subst hm
      refine flat_scal hu rfl fun d' x y w hv=>?_
      obtain⟨q,a,b,rfl,rfl⟩:=okV0 hv
      simp [Op.equalIn,run_underlying hu,eqV]
     ·injection hm with hm
      subst hm
      refine flat_scal hu rfl fun d' x y w hv=>?_
      obtain⟨a,b,rfl,rfl⟩:=okV1 hv
      simp [Op.equalIn,run_underlying hu,eqV]
     ·injection hm with hm
      subst hm
      refine flat_scal hu rfl fun d' x y w hv=>?_
      obtain⟨a,b,rfl,rfl⟩:=okV2 hv
      simp [Op.equalIn,run_underlying hu,eqV]
     ·rename_i len e
      split at hm
      ·rename_i ks2 ei hk hei
       split at hm
       ·rename_i hes
        injection hm with hm
        subst hm
        have hes:=Nat.eq_of_beq_eq_true hes
        refine flat_agg hi hu rfl hsz fun d' hd w A B hs=>?_
        have h2:=flat_array (ih e ks2 hk).1 hd w A B len 0 (by rw [Nat.zero_mul];exact hs)
        unfold Op.equalIn
        rw [Sem.run_bind,run_underlying hu]
        simp only [Result.andThen_ok]
        rw [Sem.run_bind]
        simp only [sizeOf,typeInfo,hei,Sem.run_bind,run_program,Result.andThen_ok,Sem.run_pure,hes,Std.Legacy.Range.forIn_eq_forIn_range',Std.Legacy.Range.size,Nat.sub_zero,Nat.add_sub_cancel,Nat.div_one]
        rw [h2,Nat.zero_mul,← reps0_len]
        rw [Result.andThen_ok]
        cases segEq A B 0 _<;>rfl
       ·cases hm
      ·cases hm
     ·rename_i fields
      split at hm
      ·cases hm
      ·rename_i hst
       refine flat_agg hi hu rfl hsz fun d' hd w A B hs=>?_
       have h2:=flat_struct (fun t ks h=>(ih t ks h).1) hd w A B fields.toList 0 ks' hm hs
       unfold Op.equalIn
       rw [Sem.run_bind,run_underlying hu]
       simp only [Result.andThen_ok]
       rw [Sem.run_bind]
       simp only [run_program,Result.andThen_ok,hst]
       rw [if_neg (by simp),Sem.run_bind,← Array.forIn_toList,h2]
       rw [Result.andThen_ok]
       cases segEq A B 0 _<;>rfl
     ·cases hm
    ·cases h
   ·cases h
  ·cases h
theorem flatB_ok {P:Program} {t:TypeId} {ks:List Nat} (h:flatB P t ks=true):EqFlat P t ks:=by
 simp only [flatB,Bool.and_eq_true,Bool.not_eq_true',beq_iff_eq] at h
 obtain⟨⟨h1,h2⟩,h3⟩:=h
 refine⟨h1,fun w A B hA hB hs=>?_⟩
 obtain⟨hF,i,hi,hsz⟩:=flatK_ok 10 t ks h2
 have:=hF Op.maxDepth (by decide) w A B 0 hs
 split at h3
 all_goals first|cases h3|skip
 all_goals
  rename_i hu
  rw [Sem.run_bind,part_agg hi hu rfl] at this
  simp only [Result.andThen_ok] at this
  rw [Sem.run_bind,part_agg hi hu rfl] at this
  simp only [Result.andThen_ok,Nat.zero_add,hsz] at this
  rw [← hA,Array.extract_size,hA,← hB,Array.extract_size,hB] at this
  exact this
end Go.AE
namespace Go.AE
theorem nth_eq {α:Type} (l:List α) (n:Nat):nth l n=l[n]?:=by
 induction l generalizing n with
 | nil=>rfl
 | cons a l ih=>cases n with
  | zero=>rfl
  | succ n=>simp [nth,ih]
theorem setN_eq {α:Type} (l:List α) (n:Nat) (v:α):setN l n v=l.set n v:=by
 induction l generalizing n with
 | nil=>rfl
 | cons a l ih=>cases n with
  | zero=>rfl
  | succ n=>simp [setN,ih]
theorem len_eq {α:Type} (l:List α):len l=l.length:=by
 induction l with
 | nil=>rfl
 | cons a l ih=>simp [len,ih]
theorem snoc_eq {α:Type} (l:List α) (b:α):snoc l b=l++[b]:=by
 induction l with
 | nil=>rfl
 | cons a l ih=>simp [snoc,ih]
theorem dropN_eq {α:Type} (l:List α) (n:Nat):dropN l n=l.drop n:=by
 induction n generalizing l with
 | zero=>cases l<;>rfl
 | succ n ih=>cases l with
  | nil=>rfl
  | cons a l=>simp [dropN,ih]
theorem takeN_eq {α:Type} (l:List α) (n:Nat):takeN l n=l.take n:=by
 induction n generalizing l with
 | zero=>cases l<;>rfl
 | succ n ih=>cases l with
  | nil=>rfl
  | cons a l=>simp [takeN,ih]
theorem catL_eq {α:Type} (l k:List α):catL l k=l++k:=by
 induction l with
 | nil=>rfl
 | cons a l ih=>simp [catL,ih]
theorem putCells_len {α:Type} (vs cs:List α) (off:Nat):(putCells cs off vs).length=cs.length:=by
 induction vs generalizing cs off with
 | nil=>rfl
 | cons v vs ih=>simp [putCells,ih,setN_eq]
theorem putCells_get {α:Type} (vs cs:List α) (off:Nat) (h:off+vs.length≤cs.length) (j:Nat) :
  (putCells cs off vs)[j]?=if off≤j∧j<off+vs.length then vs[j - off]? else cs[j]?:=by
 induction vs generalizing cs off with
 | nil=>simp only [putCells,List.length_nil,Nat.add_zero];rw [if_neg (by omega)]
 | cons v vs ih =>
  simp only [List.length_cons] at h
  simp only [putCells,setN_eq,List.length_cons]
  rw [ih (cs.set off v) (off+1) (by simp;omega)]
  by_cases h1:off+1≤j∧j<off+1+vs.length
  ·rw [if_pos h1,if_pos (by omega)]
   obtain⟨d,rfl⟩:∃ d,j=off+1+d:=⟨j - (off+1),by omega⟩
   rw [show off+1+d - (off+1)=d by omega,show off+1+d - off=d+1 by omega]
   simp
  ·rw [if_neg h1,List.getElem?_set]
   by_cases h2:off=j
   ·subst h2;simp;omega
   ·rw [if_neg h2]
    rw [if_neg (by omega)]
theorem putC_eq {α:Type} {n:Nat} (cs:List α) (off:Nat) (l:List α) (hn:n=cs.length) (h:off+l.length≤cs.length):putC n cs off l=putCells cs off l:=by
 unfold putC
 split
 ·rename_i e
  have e:=Nat.eq_of_beq_eq_true e
  rw [len_eq] at e
  obtain rfl:off=0:=by omega
  refine List.ext_getElem? fun j=>?_
  rw [putCells_get l cs 0 h j]
  by_cases hj:j<l.length
  ·rw [if_pos ⟨by omega,by omega⟩,Nat.sub_zero]
  ·rw [if_neg (by omega),List.getElem?_eq_none (by omega),List.getElem?_eq_none (by omega)]
 ·rfl
theorem putD_eq {α:Type} (sz:Nat) (cs:List α) (off:Nat) (l:List α) (h:off+l.length≤cs.length):putD sz cs off l=putCells cs off l:=by
 unfold putD
 split
 ·rfl
 ·exact putC_eq cs off l (len_eq cs) h
theorem putCells_in {α:Type} (vs cs:List α) (off:Nat) (h:off+vs.length≤cs.length) (j:Nat) (hj:off≤j∧j<off+vs.length) (hj':j<(putCells cs off vs).length) :
  (putCells cs off vs)[j]=vs[j - off]'(by omega):=by
 have:=putCells_get vs cs off h j
 rw [if_pos hj,List.getElem?_eq_getElem hj',List.getElem?_eq_getElem (by omega)] at this
 injection this
theorem putCells_out {α:Type} (vs cs:List α) (off:Nat) (h:off+vs.length≤cs.length) (j:Nat) (hj:¬ (off≤j∧j<off+vs.length)) (hj':j<(putCells cs off vs).length) :
  (putCells cs off vs)[j]=cs[j]'(by rw [putCells_len] at hj';exact hj'):=by
 have:=putCells_get vs cs off h j
 have hj2:j<cs.length:=by rw [putCells_len] at hj';exact hj'
 rw [if_neg hj,List.getElem?_eq_getElem hj',List.getElem?_eq_getElem hj2] at this
 injection this
theorem pvs_len (l:List PV):(pvs l).length=l.length:=by
 induction l with
 | nil=>rfl
 | cons a l ih=>simp [pvs,ih]
theorem pvs_get (l:List PV) (j:Nat) (hj:j<(pvs l).length):(pvs l)[j]=.p (l[j]'(by rw [pvs_len] at hj;exact hj)):=by
 induction l generalizing j with
 | nil=>simp [pvs] at hj
 | cons a l ih=>cases j with
  | zero=>rfl
  | succ j=>simpa [pvs] using ih j (by simpa [pvs] using hj)
theorem ones_get {l:List AV} (h:ones l=true) (j:Nat) (hj:j<l.length):l[j].one=true:=by
 induction l generalizing j with
 | nil=>simp at hj
 | cons a l ih =>
  simp only [ones,Bool.and_eq_true] at h
  cases j with
  | zero=>exact h.1
  | succ j=>exact ih h.2 j (by simpa using hj)
theorem hp_set (K:List ABlk) (r:Nat) (b b0:ABlk) (h:nth K r=some b0):hp (setN K r b)=upd (hp K) r b:=by
 rw [nth_eq] at h
 have hr:=(List.getElem?_eq_some_iff.1 h).1
 funext k
 simp only [hp,upd,nth_eq,setN_eq,List.getElem?_set]
 by_cases e:k=r
 ·subst e;simp [hr]
 ·have e':¬ r=k:=fun x=>e x.symm
  simp only [e,e',if_false]
theorem hp_snoc (K:List ABlk) (b:ABlk):hp (snoc K b)=upd (hp K) (len K) b:=by
 funext k
 simp only [hp,upd,nth_eq,snoc_eq,len_eq,List.getElem?_append]
 by_cases e:k=K.length
 ·subst e;simp
 ·by_cases h:k<K.length
  ·simp [e,h]
  ·have:¬ k<K.length:=h
   simp only [this,if_false,e]
   rw [List.getElem?_eq_none (by simp;omega),List.getElem?_eq_none (by omega)]
theorem hp_len (K:List ABlk):hp K (len K)=.absent:=by
 simp [hp,nth_eq,len_eq]
theorem hp_nth {K:List ABlk} {r:Nat} {b:ABlk} (h:nth K r=some b):hp K r=b:=by simp [hp,h]
def VL (w:World) (m:Mp) (l:List AV) (A:Array Value):Prop:=l.length=A.size∧∀ j (hj:j<l.length) (hj':j<A.size),V w m l[j] A[j]
theorem VL.nil (w:World) (m:Mp):VL w m [] #[]:=⟨rfl,fun j hj=>by simp at hj⟩
theorem VL.append {w:World} {m:Mp} {l l':List AV} {A A':Array Value} (h:VL w m l A) (h':VL w m l' A'):VL w m (l++l') (A++A'):=by
 refine⟨by simp [h.1,h'.1],fun j hj hj'=>?_⟩
 by_cases e:j<l.length
 ·rw [List.getElem_append_left e,Array.getElem_append_left (by rw [← h.1];exact e)]
  exact h.2 j e _
 ·rw [List.getElem_append_right (by omega),Array.getElem_append_right (by rw [← h.1];omega)]
  have:=h'.2 (j - l.length) (by simp at hj;omega) (by rw [← h'.1];simp at hj;omega)
  simpa [h.1] using this
theorem V.cells {w:World} {m:Mp} {a:AV} {u:Value} (h:V w m a u) (ha:a≠.junk) (ha':∀ l,a≠.tup l):VL w m a.cells u.cells:=by
 cases h with
 | agg cs A hA hv=>exact⟨hA,hv⟩
 | tup cs A hA hv=>exact absurd rfl (ha' cs)
 | junk u=>exact absurd rfl ha
 | yld r sz cap h=>exact⟨rfl,fun j hj hj'=>by
   have:j=0:=by simpa [AV.cells] using hj
   subst this;exact .yld r sz cap h⟩
 | yldOld r b h=>exact⟨rfl,fun j hj hj'=>by
   have:j=0:=by simpa [AV.cells] using hj
   subst this;exact .yldOld r b h⟩
 | mref r sz cap h=>exact⟨rfl,fun j hj hj'=>by
   have:j=0:=by simpa [AV.cells] using hj
   subst this;exact .mref r sz cap h⟩
 | mrefOld r b h=>exact⟨rfl,fun j hj hj'=>by
   have:j=0:=by simpa [AV.cells] using hj
   subst this;exact .mrefOld r b h⟩
 | p v u h =>
  have h1:=h.one
  have:u.cells=#[u]:=by cases u<;>first|rfl|simp [Value.oneCell'] at h1
  rw [this]
  exact⟨rfl,fun j hj hj'=>by
   have:j=0:=by simpa [AV.cells] using hj
   subst this;exact .p v u h⟩
 | ptr r ver n i off sz cap h hi=>exact⟨rfl,fun j hj hj'=>by
   have:j=0:=by simpa [AV.cells] using hj
   subst this;exact .ptr r ver n i off sz cap h hi⟩
 | ptrOld r ver n i off b o h=>exact⟨rfl,fun j hj hj'=>by
   have:j=0:=by simpa [AV.cells] using hj
   subst this;exact .ptrOld r ver n i off b o h⟩
 | slr r ver off n N sz cap h hn=>exact⟨rfl,fun j hj hj'=>by
   have:j=0:=by simpa [AV.cells] using hj
   subst this;exact .slr r ver off n N sz cap h hn⟩
 | slrNil r ver a h=>exact⟨rfl,fun j hj hj'=>by
   have:j=0:=by simpa [AV.cells] using hj
   subst this;exact .slrNil r ver a h⟩
 | slrEnd r ver N sz cap a h=>exact⟨rfl,fun j hj hj'=>by
   have:j=0:=by simpa [AV.cells] using hj
   subst this;exact .slrEnd r ver N sz cap a h⟩
 | slrOld r ver off n ad c h=>exact⟨rfl,fun j hj hj'=>by
   have:j=0:=by simpa [AV.cells] using hj
   subst this;exact .slrOld r ver off n ad c h⟩
 | rop cs off b o u hI hc hv=>exact⟨rfl,fun j hj hj'=>by
   have:j=0:=by simpa [AV.cells] using hj
   subst this;exact .rop cs off b o u hI hc hv⟩
 | fn f first cap A B hA hB h1 h2=>exact⟨rfl,fun j hj hj'=>by
   have:j=0:=by simpa [AV.cells] using hj
   subst this;exact .fn f first cap A B hA hB h1 h2⟩
 | iface t v u h=>exact⟨rfl,fun j hj hj'=>by
   have:j=0:=by simpa [AV.cells] using hj
   subst this;exact .iface t v u h⟩
def utOk (P:Program):UT→TypeDesc→Prop
 | .int k,d=>d=.int k
 | .bool,d=>d=.bool
 | .string,d=>d=.string
 | .slice e,d=>d=.slice e
 | .ptr e,d=>d=.pointer e
 | .struct fs,d=>∃ fields:Array Field,d=.struct fields∧fields.toList.map (fun f=>(f.offset,f.type))=fs∧∀ f∈fields.toList,(P.info? f.type).isSome=true
 | .array n e,d=>d=.array n e
 | .map k e,d=>d=.map k e
 | .func,d=>∃ a b c,d=.func a b c
 | .iface,d=>∃ ms,d=.interface ms
 | .other,_=>True
def zOk (zs:List PV) (A:Array Value):Prop:=zs.length=A.size∧∀ w I j (hj:j<zs.length) (hj':j<A.size),VP w I zs[j] A[j]
def aggOf:TypeDesc→Bool
 | .struct _ | .array _ _=>true
 | _=>false
def zAgg:Value→Bool
 | .agg _=>true
 | _=>false
def TIok (P:Program) (t:Nat) (ti:TI):Prop :=
 ∃ i d z,P.info? t=some i∧P.underlying t=some d∧i.size=ti.size∧i.bytes=ti.bytes∧utOk P ti.u d∧i.zero=some z∧zOk ti.zero z.cells∧ti.agg=aggOf d∧ti.agg=zAgg z
structure TabOk (P:Program) (T:Tab):Prop where
 t:∀ t ti,T.t.get t=some ti→TIok P t ti
 f : ∀ f fn, T.f.get f = some fn → P.funcs[f]? = some fn ∧ (fn.name == "runtime.NumGoroutine") = false
 e:∀ t ks,eqTy T.e t=some ks→EqFlat P t ks
def RunOk (P:Program) (w:World) (m:Mp) (s:Sem Value) (k:AV→List ABlk→Prop):Prop :=
 ∃ u w' m' a K',s.run P w=.ok u w'∧Tr w m w' m'∧St w' m' (hp K')∧V w' m' a u∧k a K'
section
variable {P:Program} {T:Tab} {w:World} {m:Mp} {K:List ABlk} {k:AV→List ABlk→Prop}
theorem RunOk.same {s:Sem Value} {u:Value} {a:AV} (hS:St w m (hp K)) (hr:s.run P w=.ok u w) (hv:V w m a u) (hk:k a K):RunOk P w m s k :=
 ⟨u,w,m,a,K,hr,Tr.refl w m,hS,hv,hk⟩
theorem isAgg_run {t:Nat} {d:TypeDesc} (h:P.underlying t=some d) (w:World):(isAgg t).run P w=.ok (aggOf d) w:=by
 unfold isAgg
 rw [Sem.run_bind,run_underlying h w]
 cases d<;>rfl
theorem addr_add (b o j:Nat):(⟨b,o,none⟩:Addr).add j=⟨b,o+j,none⟩:=by unfold Addr.add;split<;>simp_all
theorem part_load {t:Nat} {ti:TI} (hti:TIok P t ti) (b o0:Nat) (cs:List AV) (hc:∀ j (hj:j<cs.length),∃ u,w.cell? ⟨b,o0+j,none⟩=some u∧V w m cs[j] u)
  (off:Nat) (q:AV→Prop) (h:part ti cs off q):∃ u a,(loadVar t ⟨b,o0+off,none⟩).run P w=.ok u w∧V w m a u∧q a:=by
 obtain⟨i,d,z,hi,hu,hsz,_,_,_,_,hagg,_⟩:=hti
 unfold part at h
 unfold loadVar
 simp only [Sem.run_bind,isAgg_run hu,Result.andThen_ok]
 rw [← hagg]
 cases hA:ti.agg with
 | true =>
  rw [hA] at h
  simp only at h
  cases hb:Nat.ble (off+ti.size) (len cs) with
  | false=>rw [hb] at h;exact h.elim
  | true =>
   rw [hb] at h
   simp only [fVL_eq,takeN_eq,dropN_eq] at h
   have hle:off+ti.size≤cs.length:=by rw [len_eq] at hb;exact Nat.le_of_ble_eq_true hb
   have hcell:∃ g:Nat→Value,∀ j,j<ti.size→w.cell? ((⟨b,o0+off,none⟩:Addr).add j)=some (g j)∧∀ hj:off+j<cs.length,V w m cs[off+j] (g j):=by
    refine⟨fun j=>(w.cell? ⟨b,o0+(off+j),none⟩).getD undef,fun j hj=>?_⟩
    obtain⟨u,h1,h2⟩:=hc (off+j) (by omega)
    rw [addr_add,show o0+off+j=o0+(off+j) by omega]
    exact⟨by simp [h1],fun _=>by simpa [h1] using h2⟩
   obtain⟨g,hg⟩:=hcell
   have hl:=run_loadCells (P:=P) w ⟨b,o0+off,none⟩ ti.size g (fun j hj=>(hg j hj).1)
   refine⟨.agg ((List.range ti.size).map g).toArray,.agg ((cs.drop off).take ti.size),?_,?_,h⟩
   ·simp [sizeOf,typeInfo,hi,hsz,hl]
   ·refine .agg _ _ (by simp;omega) fun j hj hj'=>?_
    have hj2:j<ti.size:=by simp at hj';exact hj'
    have:=(hg j hj2).2 (by omega)
    simpa using this
 | false =>
  rw [hA] at h
  simp only at h
  rw [nth_eq] at h
  cases hn:cs[off]? with
  | none=>rw [hn] at h;exact h.elim
  | some v =>
   rw [hn] at h
   simp only [fV_eq] at h
   obtain⟨hlt,rfl⟩:=List.getElem?_eq_some_iff.1 hn
   obtain⟨u,h1,h2⟩:=hc off hlt
   refine⟨u,_,?_,h2,h⟩
   simp [h1]
theorem opLoad_same (hT:TabOk P T) (hS:St w m (hp K)) {ty:Nat} {a:AV} {u:Value} (hv:V w m a u) (h:opLoad T K k ty a) :
  ∃ ad x b,u=.pointer (some ad)∧(loadVar ty ad).run P w=.ok x w∧V w m b x∧k b K:=by
 unfold opLoad at h
 cases hg:T.t.get ty with
 | none=>rw [hg] at h;exact h.elim
 | some ti =>
  rw [hg] at h
  have hti:=hT.t ty ti hg
  cases hv with
  | rop cs off b o u hI hc hvp =>
   simp only at h
   obtain⟨v,a',h1,h2,h3⟩:=part_load (P:=P) (w:=w) (m:=m) hti b o (pvs cs) (fun j hj=>by
    have hj':j<cs.length:=by rw [pvs_len] at hj;exact hj
    rw [pvs_get]
    exact⟨u j,hc j hj',.p _ _ (hvp j hj')⟩) off _ h
   exact⟨_,v,_,rfl,h1,h2,h3⟩
  | ptr r ver n i off sz cap hL hi =>
   simp only at h
   cases hn:nth K r with
   | none=>rw [hn] at h;exact h.elim
   | some b =>
    rw [hn] at h
    have hb:=hS.blk r
    rw [hp_nth hn] at hb
    cases b with
    | absent=>exact h.elim
    | dead=>exact h.elim
    | lp=>exact h.elim
    | mp=>exact h.elim
    | box bt cs =>
     simp only at h
     split at h
     ·obtain⟨hl,c,h1,h2,h3⟩:=hb
      obtain⟨v,a',h4,h5,h6⟩:=part_load (P:=P) (w:=w) (m:=m) hti (m.ρ r) 0 cs (fun j hj=>by
       obtain⟨x,hx,hx'⟩:=h3 j hj
       exact⟨x,by rw [cell_of_row w _ _ c bt (0,0) h1];simpa using hx,hx'⟩) off _ h
      simp only [Nat.zero_mul,Nat.zero_add] at h4 ⊢
      exact⟨_,v,_,rfl,h4,h5,h6⟩
     ·exact h.elim
    | arr et sz' ver' n' f =>
     simp only at h
     obtain⟨⟨rfl,rfl⟩,h⟩:=h
     rcases hb with ⟨hb,_⟩|⟨cap',c,hl,hcap,hmax,h1,h2,h3⟩
     ·rw [hL] at hb;simp at hb
     rw [hL] at hl
     injection hl with _ _ e3 e4
     subst e3
     obtain⟨v,a',h4,h5,h6⟩:=part_load (P:=P) (w:=w) (m:=m) hti (m.ρ r) (i*sz) (f i) (fun j hj=>by
      obtain⟨x,hx,hx'⟩:=(h3 i hi).2 j hj
      exact⟨x,by rw [cell_of_row w _ _ c et (0,0) h1];exact hx,hx'⟩) off _ h
     exact⟨_,v,_,rfl,h4,h5,h6⟩
  | ptrOld r ver n i off b' o' hold =>
   exfalso
   simp only at h
   cases hn:nth K r with
   | none=>rw [hn] at h;exact h.elim
   | some b =>
    rw [hn] at h
    have hb:=hS.blk r
    rw [hp_nth hn] at hb
    cases b with
    | absent=>exact h.elim
    | dead=>exact h.elim
    | lp=>exact h.elim
    | mp=>exact h.elim
    | box bt cs =>
     simp only at h
     rw [hb.1] at hold
     split at h
     ·simp [Inf.old] at hold
     ·exact h.elim
    | arr et sz' ver' n' f =>
     obtain⟨⟨rfl,rfl⟩,_⟩:=h
     rcases hb with ⟨hl,_⟩|⟨cap',c,hl,_⟩
     ·rw [hl] at hold;simp [Inf.old] at hold
     rw [hl] at hold
     simp [Inf.old] at hold
  | p=>exact h.elim
  | slr=>exact h.elim
  | slrNil=>exact h.elim
  | slrEnd=>exact h.elim
  | slrOld=>exact h.elim
  | fn=>exact h.elim
  | iface=>exact h.elim
  | agg=>exact h.elim
  | tup=>exact h.elim
  | yld=>exact h.elim
  | yldOld=>exact h.elim
  | mref=>exact h.elim
  | mrefOld=>exact h.elim
  | junk=>exact h.elim
theorem opLoad_ok (hT:TabOk P T) (hS:St w m (hp K)) {ty:Nat} {a:AV} {u:Value} (hv:V w m a u) (h:opLoad T K k ty a):RunOk P w m (Instr.loadAt ty u) k:=by
 obtain⟨ad,x,b,rfl,h1,h2,h3⟩:=opLoad_same hT hS hv h
 exact RunOk.same hS (u:=x) (by simp [Instr.loadAt,Instr.sureAddr,h1]) h2 h3
def splice (c:Array Value) (o:Nat) (vs:List Value):Array Value:=(c.toList.take o++vs++c.toList.drop (o+vs.length)).toArray
theorem splice_get (c:Array Value) (o:Nat) (vs:List Value) (h:o+vs.length≤c.size) (j:Nat) :
  (splice c o vs)[j]?=if o≤j∧j<o+vs.length then vs[j - o]? else c[j]?:=by
 have hl:c.toList.length=c.size:=by simp
 simp only [splice,List.getElem?_toArray,List.getElem?_append,List.length_append,List.length_take,hl,List.getElem?_take,List.getElem?_drop]
 have hm:min o c.size=o:=by omega
 rw [hm]
 by_cases h1:j<o
 ·rw [if_pos (by omega),if_pos h1,if_pos h1,if_neg (by omega)];simp
 ·by_cases h2:j<o+vs.length
  ·rw [if_pos h2,if_neg h1,if_pos ⟨by omega,h2⟩]
  ·rw [if_neg h2,if_neg (by omega)]
   rw [show o+vs.length+(j - (o+vs.length))=j by omega];simp
theorem splice_size (c:Array Value) (o:Nat) (vs:List Value) (h:o+vs.length≤c.size):(splice c o vs).size=c.size:=by
 simp [splice];omega
theorem updF_same (f:Nat→List AV) (i:Nat) (c:List AV):updF f i c i=c:=by simp [updF]
theorem updF_other (f:Nat→List AV) (i j:Nat) (c:List AV) (h:j≠i):updF f i c j=f j:=by
 have:Nat.beq j i=false:=by cases e:Nat.beq j i with
  | true=>exact absurd (Nat.eq_of_beq_eq_true e) h
  | false=>rfl
 simp only [updF,this]
theorem VL.get? {w:World} {m:Mp} {l:List AV} {A:Array Value} (h:VL w m l A) (j:Nat) (hj:j<l.length):∃ u,A[j]?=some u∧V w m l[j] u :=
 ⟨A[j]'(by rw [← h.1];exact hj),by simp [← h.1,hj],h.2 j hj _⟩
theorem one_not {a:AV} (h:ones a.cells=true):a≠.junk∧∀ l,a≠.tup l:=by
 constructor
 ·rintro rfl;simp [AV.cells,ones,AV.one] at h
 ·rintro l rfl;simp [AV.cells,ones,AV.one] at h
theorem VL.ones {l:List AV} {A:Array Value} (h:VL w m l A) (h1:ones l=true):∀ u∈A.toList,u.oneCell'=true:=by
 intro u hu
 obtain⟨j,hj,rfl⟩:=List.getElem_of_mem hu
 simp only [Array.length_toList] at hj
 have:=(h.2 j (by rw [h.1];exact hj) hj).one (ones_get h1 j _)
 simpa using this
theorem store_run {ty:Nat} {ti:TI} (hti:TIok P ty ti) {r:Nat} {c:Array Value} {bt:TypeId}
  (hc:w.heap[m.ρ r]?=some (.cells c bt (0,0))) {v:AV} {x:Value} (hx:V w m v x) (hlen:v.cells.length=ti.size) (h1:ones v.cells=true) (o:Nat) (ho:o+ti.size≤c.size) :
  (Instr.storeAt ty (.pointer (some ⟨m.ρ r,o,none⟩)) x).run P w=.ok () (w.setRow (m.ρ r) (splice c o x.cells.toList)):=by
 obtain⟨i,d,z,hi,hu,hsz,_,_,_,_,hagg,_⟩:=hti
 have hcs:=hx.cells (one_not h1).1 (one_not h1).2
 have hsize:x.cells.size=ti.size:=by rw [← hcs.1,hlen]
 have hst:=run_storeCells_at P (m.ρ r) o bt x.cells.toList 0 c w hc (by simp [hsize];exact ho) (hcs.ones h1)
 simp only [Nat.add_zero] at hst
 simp only [Instr.storeAt,Instr.sureAddr,storeVar,sizeOf,typeInfo,hi,hsz,hsize,hst,splice,Sem.run_bind,Sem.run_pure,run_program,Result.andThen_ok,ne_eq,not_true_eq_false,if_false]
def RunOkU (P:Program) (w:World) (m:Mp) (s:Sem Unit) (k:AV→List ABlk→Prop):Prop :=
 ∃ w' m' K',s.run P w=.ok () w'∧Tr w m w' m'∧St w' m' (hp K')∧k .junk K'
theorem opStore_ok (hT:TabOk P T) (hS:St w m (hp K)) {ty:Nat} {a v:AV} {u x:Value} (ha:V w m a u) (hx:V w m v x) (h:opStore T K k ty a v):RunOkU P w m (Instr.storeAt ty u x) k:=by
 unfold opStore at h
 cases hg:T.t.get ty with
 | none=>rw [hg] at h;exact h.elim
 | some ti =>
  rw [hg] at h
  have hti:=hT.t ty ti hg
  simp only at h
  split at h
  case h_2=>exact h.elim
  rename_i hlen h1
  have hlen':v.cells.length=ti.size:=by rw [len_eq] at hlen;exact Nat.eq_of_beq_eq_true hlen
  have hcs:=hx.cells (one_not h1).1 (one_not h1).2
  have hxl:x.cells.toList.length=ti.size:=by simp [← hcs.1,hlen']
  cases ha with
  | ptr r ver n i off sz cap hL hi =>
   simp only at h
   cases hn:nth K r with
   | none=>rw [hn] at h;exact h.elim
   | some b =>
    rw [hn] at h
    have hb:=hS.blk r
    rw [hp_nth hn] at hb
    have hlive:(m.L r).isLive:=by rw [hL];trivial
    cases b with
    | absent=>exact h.elim
    | dead=>exact h.elim
    | lp=>exact h.elim
    | mp=>exact h.elim
    | box bt cs =>
     simp only at h
     split at h
     case h_2=>exact h.elim
     cases hbl:Nat.ble (off+ti.size) (len cs) with
     | false=>rw [hbl] at h;exact h.elim
     | true =>
      rw [hbl] at h
      simp only [fB_eq,fL_eq] at h
      have hle:off+ti.size≤cs.length:=by rw [len_eq] at hbl;exact Nat.le_of_ble_eq_true hbl
      rw [putC_eq cs off v.cells (len_eq cs) (by omega)] at h
      obtain⟨hl,c,h2,h3,h4⟩:=hb
      have hrun:=store_run hti h2 hx hlen' h1 off (by omega)
      refine⟨_,m,_,by simpa only [Nat.zero_mul,Nat.zero_add] using hrun,Tr.setRow hS r hlive _,?_,h⟩
      rw [hp_set K r _ _ hn]
      refine hS.setRow r hlive _ _ ⟨by rw [putCells_len];exact hl,_,setRow_heap w _ c _ bt _ h2,?_,fun j hj=>?_⟩
      ·rw [splice_size c off _ (by omega),putCells_len];exact h3
      ·have hj0:=hj
       rw [putCells_len] at hj
       rw [splice_get c off _ (by omega)]
       have hT':=Tr.setRow hS r hlive (splice c off x.cells.toList)
       by_cases hin:off≤j∧j<off+ti.size
       ·rw [hxl,if_pos hin]
        obtain⟨y,hy1,hy2⟩:=hcs.get? (j - off) (by omega)
        refine⟨y,by simpa using hy1,?_⟩
        rw [putCells_in v.cells cs off (by omega) j (by omega) hj0]
        exact hy2.mono hT'
       ·rw [hxl,if_neg hin]
        obtain⟨y,hy1,hy2⟩:=h4 j hj
        refine⟨y,hy1,?_⟩
        rw [putCells_out v.cells cs off (by omega) j (by omega) hj0]
        exact hy2.mono hT'
    | arr et sz' ver' n' f =>
     simp only at h
     obtain⟨⟨rfl,rfl⟩,h⟩:=h
     rcases hb with ⟨hb,_⟩|⟨cap',c,hl,hcap,hmax,h2,h3,h4⟩
     ·rw [hL] at hb;simp at hb
     rw [hL] at hl
     injection hl with _ _ e3 e4
     subst e3
     subst e4
     cases hbl:Nat.ble (off+ti.size) sz with
     | false=>rw [hbl] at h;exact h.elim
     | true =>
      rw [hbl] at h
      simp only [fL_eq] at h
      have hle:off+ti.size≤sz:=Nat.le_of_ble_eq_true hbl
      rw [putC_eq (f i) off v.cells (h4 i hi).1.symm (by rw [(h4 i hi).1];omega)] at h
      have hroom:(i+1)*sz≤cap*sz:=Nat.mul_le_mul_right _ (by omega)
      have hmul:(i+1)*sz=i*sz+sz:=by rw [Nat.add_mul,Nat.one_mul]
      have hfit:i*sz+off+ti.size≤c.size:=by rw [h3];omega
      have hrun:=store_run hti h2 hx hlen' h1 (i*sz+off) hfit
      refine⟨_,m,_,hrun,Tr.setRow hS r hlive _,?_,h⟩
      rw [hp_set K r _ _ hn]
      refine hS.setRow r hlive _ _ (.inr ⟨cap,_,hL,hcap,hmax,setRow_heap w _ c _ et _ h2,?_,fun j hj=>?_⟩)
      ·rw [splice_size c _ _ (by omega)];exact h3
      ·have hT':=Tr.setRow hS r hlive (splice c (i*sz+off) x.cells.toList)
       have hfi:=(h4 i hi).1
       by_cases hji:j=i
       ·subst hji
        rw [updF_same]
        refine⟨by rw [putCells_len];exact hfi,fun q hq=>?_⟩
        have hq':q<(f j).length:=by rwa [putCells_len] at hq
        rw [splice_get c _ _ (by omega),hxl]
        by_cases hin:off≤q∧q<off+ti.size
        ·rw [if_pos (by omega)]
         obtain⟨y,hy1,hy2⟩:=hcs.get? (q - off) (by omega)
         refine⟨y,by rw [show j*sz+q - (j*sz+off)=q - off by omega];simpa using hy1,?_⟩
         rw [putCells_in v.cells (f j) off (by omega) q (by omega) hq]
         exact hy2.mono hT'
        ·rw [if_neg (by omega)]
         obtain⟨y,hy1,hy2⟩:=(h4 j hj).2 q hq'
         refine⟨y,hy1,?_⟩
         rw [putCells_out v.cells (f j) off (by omega) q (by omega) hq]
         exact hy2.mono hT'
       ·have hfj:=(h4 j hj).1
        rw [updF_other _ _ _ _ hji]
        refine⟨hfj,fun q hq=>?_⟩
        rw [splice_get c _ _ (by omega),hxl]
        have hout:¬ (i*sz+off≤j*sz+q∧j*sz+q<i*sz+off+ti.size):=by
         intro ⟨ha,hb⟩
         rcases Nat.lt_or_gt_of_ne hji with hlt|hgt
         ·have:(j+1)*sz≤i*sz:=Nat.mul_le_mul_right _ hlt
          rw [Nat.add_mul,Nat.one_mul] at this
          omega
         ·have:(i+1)*sz≤j*sz:=Nat.mul_le_mul_right _ hgt
          omega
        rw [if_neg hout]
        obtain⟨y,hy1,hy2⟩:=(h4 j hj).2 q hq
        exact⟨y,hy1,hy2.mono hT'⟩
  | ptrOld r ver n i off b' o' hold =>
   exfalso
   simp only at h
   cases hn:nth K r with
   | none=>rw [hn] at h;exact h.elim
   | some b =>
    rw [hn] at h
    have hb:=hS.blk r
    rw [hp_nth hn] at hb
    cases b with
    | absent=>exact h.elim
    | dead=>exact h.elim
    | lp=>exact h.elim
    | mp=>exact h.elim
    | box bt cs =>
     simp only at h
     rw [hb.1] at hold
     split at h
     ·simp [Inf.old] at hold
     ·exact h.elim
    | arr et sz' ver' n' f =>
     obtain⟨⟨rfl,rfl⟩,_⟩:=h
     rcases hb with ⟨hl,_⟩|⟨cap',c,hl,_⟩
     ·rw [hl] at hold;simp [Inf.old] at hold
     rw [hl] at hold
     simp [Inf.old] at hold
  | p=>exact h.elim
  | rop=>exact h.elim
  | slr=>exact h.elim
  | slrNil=>exact h.elim
  | slrEnd=>exact h.elim
  | slrOld=>exact h.elim
  | fn=>exact h.elim
  | iface=>exact h.elim
  | agg=>exact h.elim
  | tup=>exact h.elim
  | yld=>exact h.elim
  | yldOld=>exact h.elim
  | mref=>exact h.elim
  | mrefOld=>exact h.elim
  | junk=>exact h.elim
theorem alloc_box (hS:St w m (hp K)) (ty:TypeId) (c:Array Value) (cs:List AV) (hv:VL w m cs c) :
  ∃ m',Tr w m (w.alloc (.cells c ty)) m'∧St (w.alloc (.cells c ty)) m' (hp (snoc K (.box ty cs)))∧V (w.alloc (.cells c ty)) m' (.ptr (len K) 0 1 0 0) (.pointer (some ⟨w.heap.size,0,none⟩)):=by
 have habs:m.L (len K)=.absent:=hS.absent (hp_len K)
 have hT:=Tr.alloc w m (.cells c ty) (len K) (.live 0 1 cs.length 1) habs hS.Ilt
 refine⟨_,hT,?_,?_⟩
 ·rw [hp_snoc]
  refine hS.alloc _ _ _ (hp_len K) _ ⟨rfl,c,heap_alloc_new w _,hv.1.symm,fun j hj=>?_⟩
  obtain⟨u,h1,h2⟩:=hv.get? j hj
  exact⟨u,h1,h2.mono hT⟩
 ·have:=V.ptr (w:=w.alloc (.cells c ty)) (m:=m.set (len K) w.heap.size (.live 0 1 cs.length 1)) (len K) 0 1 0 0 cs.length 1 (by simp [Mp.set]) (by omega)
  simpa [Mp.set] using this
theorem pvs_VL {zs:List PV} {A:Array Value} (h:zOk zs A) (w:World) (m:Mp):VL w m (pvs zs) A :=
 ⟨by rw [pvs_len];exact h.1,fun j hj hj'=>by
  rw [pvs_get]
  exact .p _ _ (h.2 w m.I j (by rw [pvs_len] at hj;exact hj) hj')⟩
theorem opAlloc_ok (hT:TabOk P T) (hS:St w m (hp K)) {ty:Nat} (h:opAlloc T K k ty):RunOk P w m (Instr.alloc ty true (.tuple #[])) k:=by
 unfold opAlloc at h
 cases hg:T.t.get ty with
 | none=>rw [hg] at h;exact h.elim
 | some ti =>
  rw [hg] at h
  simp only [fVL_eq,fL_eq] at h
  obtain⟨i,d,z,hi,hu,hsz,_,_,hz,hzo,_⟩:=hT.t ty ti hg
  obtain⟨m',h1,h2,h3⟩:=alloc_box hS ty z.cells _ (pvs_VL hzo w m)
  exact⟨_,_,m',_,_,by simp [Instr.alloc,zeroValue,typeInfo,hi,hz,newVar,newRow],h1,h2,h3,h⟩
theorem opBox_ok (hS:St w m (hp K)) {ty:Nat} {v:AV} {x:Value} (hx:V w m v x) (h:opBox K k ty v):RunOk P w m (Instr.box ty x) k:=by
 have hne:v≠.junk∧∀ l,v≠.tup l:=by
  constructor
  ·rintro rfl;exact h
  ·rintro l rfl;exact h
 have h':fVL v.cells fun cs=>fL (snoc K (.box ty cs)) fun K'=>k (.ptr (len K) 0 1 0 0) K':=by
  cases v<;>first|exact h|exact h.elim
 simp only [fVL_eq,fL_eq] at h'
 obtain⟨m',h1,h2,h3⟩:=alloc_box hS ty x.cells _ (hx.cells hne.1 hne.2)
 exact⟨_,_,m',_,_,by simp [Instr.box,newVar,newRow],h1,h2,h3,h'⟩
end
end Go.AE
namespace Go.AE
section
variable {P:Program} {T:Tab} {w:World} {m:Mp} {K:List ABlk} {k:AV→List ABlk→Prop}
theorem foldl_put (l:List Value) (off i:Nat) (C:Array Value) :
  ((l.zipIdx i).foldl (fun cs (x:Value×Nat)=>cs.setIfInBounds (off+x.2) x.1) C).toList=putCells C.toList (off+i) l:=by
 induction l generalizing i C with
 | nil=>rfl
 | cons a l ih =>
  simp only [List.zipIdx_cons,List.foldl_cons,putCells,setN_eq]
  rw [ih]
  simp [Nat.add_assoc]
theorem VL.put {cs vs:List AV} {C A:Array Value} (h:VL w m cs C) (h':VL w m vs A) (off:Nat) (hle:off+vs.length≤cs.length) :
  VL w m (putCells cs off vs) (putCells C.toList off A.toList).toArray:=by
 have h1:=h.1
 have h2:=h'.1
 refine⟨by simp [putCells_len,h1],fun j hj hj'=>?_⟩
 have hj2:j<(putCells C.toList off A.toList).length:=by simpa using hj'
 have e:(putCells C.toList off A.toList).toArray[j]=(putCells C.toList off A.toList)[j]:=by simp
 rw [e]
 by_cases hin:off≤j∧j<off+vs.length
 ·rw [putCells_in vs cs off hle j hin hj,putCells_in A.toList C.toList off (by simp;omega) j (by simp;omega) hj2]
  simpa using h'.2 (j - off) (by omega) (by omega)
 ·rw [putCells_out vs cs off hle j hin hj,putCells_out A.toList C.toList off (by simp;omega) j (by simp;omega) hj2]
  rw [putCells_len] at hj
  simpa using h.2 j hj (by omega)
def PL (w:World) (m:Mp):List (Nat×AV)→List (Nat×Value)→Prop
 | [],[]=>True
 | (i,a)::l,(j,u)::l'=>i=j∧V w m a u∧PL w m l l'
 | _,_=>False
theorem fill_step {v:AV} {x:Value} (hx:V w m v x) (hne:v≠.junk∧∀ l,v≠.tup l) {cs:List AV} {C:Array Value} (h:VL w m cs C) (off sz:Nat) (hl:v.cells.length=sz) (hle:off+sz≤cs.length) :
  ∃ C',(x.cells.zipIdx.foldl (fun cs (x:Value×Nat)=>cs.setIfInBounds (off+x.2) x.1) C)=C'∧VL w m (putCells cs off v.cells) C'∧x.cells.size=sz∧off+x.cells.size≤C.size:=by
 have hc:=hx.cells hne.1 hne.2
 have h1:=h.1
 have h2:=hc.1
 refine⟨_,rfl,?_,by omega,by omega⟩
 have e:(x.cells.zipIdx.foldl (fun cs (x:Value×Nat)=>cs.setIfInBounds (off+x.2) x.1) C)=(putCells C.toList off x.cells.toList).toArray:=by
  apply Array.ext'
  rw [← Array.foldl_toList,Array.toList_zipIdx,foldl_put]
  simp
 rw [e]
 exact h.put hc off (by omega)
theorem fillS_ok (hT:TabOk P T) {fields:Array Field} {fs:List (Nat×Nat)} (hf:fields.toList.map (fun f=>(f.offset,f.type))=fs) (pl:Array (Nat×Nat))
  (hpl:pl=fields.map fun f=>(f.offset,((P.info? f.type).map (·.size)).getD 0)) :
  ∀ (parts:List (Nat×AV)) (parts':List (Nat×Value)),PL w m parts parts'→∀ (cs:List AV) (C:Array Value),VL w m cs C→∀ r,fillS T.t fs cs parts=some r →
   ∃ C',Instr.fill (pl[·]?) C parts'=some C'∧VL w m r C'
 | [],[],_,cs,C,hC,r,h=>by
  simp only [fillS] at h
  injection h with h
  subst h
  exact⟨C,rfl,hC⟩
 | (i,v)::parts,(i',x)::parts',hP,cs,C,hC,r,h=>by
  obtain⟨rfl,hx,hP⟩:=hP
  simp only [fillS] at h
  cases hi:nth fs i with
  | none=>rw [hi] at h;simp at h
  | some o =>
   obtain⟨off,ft⟩:=o
   rw [hi] at h
   simp only at h
   cases hg:T.t.get ft with
   | none=>rw [hg] at h;simp at h
   | some fi =>
    rw [hg] at h
    simp only at h
    split at h<;>first|(simp at h;done)|skip
    rename_i vv hle hne1 hne2 hl
    obtain⟨info,d,z,hinfo,hu,hsz,_⟩:=hT.t ft fi hg
    have hle':=Nat.le_of_ble_eq_true hle
    rw [len_eq] at hle'
    have hl':=Nat.eq_of_beq_eq_true hl
    rw [len_eq] at hl'
    obtain⟨C',hC',hV',hs1,hs2⟩:=fill_step hx ⟨hne1,fun l=>hne2 l⟩ hC off fi.size hl' hle'
    have hpi:pl[i]?=some (off,fi.size):=by
     rw [nth_eq,← hf] at hi
     simp only [List.getElem?_map,Array.getElem?_toList] at hi
     rw [hpl,Array.getElem?_map]
     cases hfi:fields[i]? with
     | none=>rw [hfi] at hi;simp at hi
     | some f =>
      rw [hfi] at hi
      simp only [Option.map_some,Option.some.injEq,Prod.mk.injEq] at hi
      simp [hi.1,hi.2,hinfo,hsz]
    obtain⟨C2,h2,h3⟩:=fillS_ok hT hf pl hpl parts parts' hP _ C' hV' r h
    refine⟨C2,?_,h3⟩
    simp only [Instr.fill,hpi,hs1]
    rw [if_neg (by simp;omega),hC']
    exact h2
theorem fillA_ok (sz:Nat):∀ (parts:List (Nat×AV)) (parts':List (Nat×Value)),PL w m parts parts'→∀ (cs:List AV) (C:Array Value),VL w m cs C→∀ r,fillA sz cs parts=some r →
   ∃ C',Instr.fill (fun i=>some (i*sz,sz)) C parts'=some C'∧VL w m r C'
 | [],[],_,cs,C,hC,r,h=>by
  simp only [fillA] at h
  injection h with h
  subst h
  exact⟨C,rfl,hC⟩
 | (i,v)::parts,(i',x)::parts',hP,cs,C,hC,r,h=>by
  obtain⟨rfl,hx,hP⟩:=hP
  simp only [fillA] at h
  split at h<;>first|(simp at h;done)|skip
  rename_i vv hle hne1 hne2 hl
  have hle':=Nat.le_of_ble_eq_true hle
  rw [len_eq] at hle'
  have hl':=Nat.eq_of_beq_eq_true hl
  rw [len_eq] at hl'
  obtain⟨C',hC',hV',hs1,hs2⟩:=fill_step hx ⟨hne1,fun l=>hne2 l⟩ hC (i*sz) sz hl' hle'
  have key:=fun (l:List AV) (hl:l.length=sz)=>putD_eq sz cs (i*sz) l (by omega)
  rw [key _ hl'] at h
  obtain⟨C2,h2,h3⟩:=fillA_ok sz parts parts' hP _ C' hV' r h
  refine⟨C2,?_,h3⟩
  simp only [Instr.fill,hs1]
  rw [if_neg (by simp;omega),hC']
  exact h2
theorem mapM_run {α β:Type} (f:α→Sem β) (g:α→β) (l:List α) (h:∀ x∈l,∀ w:World,(f x).run P w=.ok (g x) w) (w:World):(l.mapM f).run P w=.ok (l.map g) w:=by
 induction l with
 | nil=>simp
 | cons a l ih =>
  simp only [List.mapM_cons,Sem.run_bind,h a (by simp),Result.andThen_ok,ih (fun x hx=>h x (by simp [hx])),Sem.run_pure,List.map_cons]
theorem opBuild_ok (hT:TabOk P T) (hS:St w m (hp K)) {ty:Nat} {parts:List (Nat×AV)} {parts':Array (Nat×Value)} (hP:PL w m parts parts'.toList) (h:opBuild T K k ty parts) :
  RunOk P w m (Instr.build ty parts') k:=by
 unfold opBuild at h
 cases hg:T.t.get ty with
 | none=>rw [hg] at h;exact h.elim
 | some ti =>
  rw [hg] at h
  obtain⟨i,d,z,hi,hu,hsz,_,hut,hz,hzo,_⟩:=hT.t ty ti hg
  simp only at h
  cases hU:ti.u with
  | struct fs =>
   rw [hU] at h hut
   simp only at h
   cases hf:fillS T.t fs (pvs ti.zero) parts with
   | none=>rw [hf] at h;exact h.elim
   | some cs =>
    rw [hf] at h
    simp only [fVL_eq] at h
    obtain⟨fields,rfl,hfs,hinf⟩:=hut
    obtain⟨C,hC,hV⟩:=fillS_ok (w:=w) (m:=m) hT hfs _ rfl parts parts'.toList hP _ _ (pvs_VL hzo w m) cs hf
    refine RunOk.same hS (u:=.agg C) ?_ (.agg _ _ hV.1 hV.2) h
    have hm:(fields.mapM fun (f:Field)=>(do pure (f.offset,← sizeOf f.type):Sem (Nat×Nat))).run P w=.ok (fields.map fun (f:Field)=>(f.offset,((P.info? f.type).map (·.size)).getD 0)) w:=by
     rw [Array.mapM_eq_mapM_toList,Sem.run_map,mapM_run (P:=P) _ (fun (f:Field)=>(f.offset,((P.info? f.type).map (·.size)).getD 0))]
     ·exact congrArg (Result.ok · w) (by apply Array.ext';simp)
     ·intro f hf w
      have:=hinf f hf
      cases hq:P.info? f.type with
      | none=>rw [hq] at this;simp at this
      | some q=>simp [sizeOf,typeInfo,hq]
    have hm':=hm
    simp only [Instr.build,zeroValue,typeInfo,hi,hz,Sem.run_bind,run_program,Sem.run_pure,Result.andThen_ok,run_underlying hu,hm',hC]
  | _=>rw [hU] at h;exact h.elim
theorem reps_len (z:List AV) (n:Nat):(reps z n).length=n*z.length:=by
 induction n with
 | zero=>simp [reps]
 | succ n ih=>simp [reps,catL_eq,ih,Nat.add_mul,Nat.add_comm]
theorem reps_get (z:List AV) (n j:Nat) (hj:j<(reps z n).length) (hz:0<z.length):(reps z n)[j]=z[j % z.length]'(Nat.mod_lt _ hz):=by
 induction n generalizing j with
 | zero=>simp [reps] at hj
 | succ n ih =>
  have hj':j<(z++reps z n).length:=by simpa [reps,catL_eq] using hj
  have e:(reps z (n+1))[j]=(z++reps z n)[j]:=by simp [reps,catL_eq]
  rw [e]
  by_cases h:j<z.length
  ·rw [List.getElem_append_left h]
   congr 1
   exact (Nat.mod_eq_of_lt h).symm
  ·rw [List.getElem_append_right (by omega),ih (j - z.length) (by simp at hj';omega)]
   congr 1
   exact (Nat.mod_eq_sub_mod (by omega)).symm
theorem made_VL {zs:List PV} {A:Array Value} (h:zOk zs A) (w:World) (m:Mp) (n:Nat) (hz:0<zs.length):VL w m (reps (pvs zs) n) ((Array.range (n*zs.length)).map (A[· % A.size]!)):=by
 refine⟨by simp [reps_len,pvs_len],fun j hj hj'=>?_⟩
 have hz':0<(pvs zs).length:=by rw [pvs_len];exact hz
 have hzA:=h.1
 rw [reps_get _ _ _ hj hz']
 have hm:j % (pvs zs).length<(pvs zs).length:=Nat.mod_lt _ hz'
 have hV:=(pvs_VL h w m).2 (j % (pvs zs).length) hm (by rw [← h.1];rw [pvs_len] at hm;rw [pvs_len];exact hm)
 have e:((Array.range (n*zs.length)).map (A[· % A.size]!))[j]=A[j % (pvs zs).length]'(by rw [← h.1];rw [pvs_len] at hm;rw [pvs_len];exact hm):=by
  simp only [Array.getElem_map,Array.getElem_range]
  have e2:j % A.size=j % (pvs zs).length:=by rw [pvs_len,hzA]
  rw [getElem!_pos A (j % A.size) (by rw [e2,← hzA];rw [pvs_len] at hm;rw [pvs_len];exact hm)]
  simp only [e2]
 rw [e]
 exact hV
theorem alloc_arr (hS:St w m (hp K)) (ty:TypeId) (sz n cap:Nat) (c:Array Value) (f:Nat→List AV) (hcap:n≤cap) (hmax:cap≤maxLen) (hc:c.size=cap*sz)
  (hf:∀ i,i<n→(f i).length=sz∧∀ j (hj:j<(f i).length),∃ u,c[i*sz+j]?=some u∧V w m (f i)[j] u) :
  ∃ m',Tr w m (w.alloc (.cells c ty)) m'∧St (w.alloc (.cells c ty)) m' (hp (snoc K (.arr ty sz 0 n f)))∧V (w.alloc (.cells c ty)) m' (.slr (len K) 0 0 n) (.slice (some ⟨w.heap.size,0,none⟩) n cap):=by
 have habs:m.L (len K)=.absent:=hS.absent (hp_len K)
 have hT:=Tr.alloc w m (.cells c ty) (len K) (.live 0 n sz cap) habs hS.Ilt
 refine⟨_,hT,?_,?_⟩
 ·rw [hp_snoc]
  refine hS.alloc _ _ _ (hp_len K) _ (.inr ⟨cap,c,rfl,hcap,hmax,heap_alloc_new w _,hc,fun i hi=>⟨(hf i hi).1,fun j hj=>?_⟩⟩)
  obtain⟨u,h1,h2⟩:=(hf i hi).2 j hj
  exact⟨u,h1,h2.mono hT⟩
 ·have:=V.slr (w:=w.alloc (.cells c ty)) (m:=m.set (len K) w.heap.size (.live 0 n sz cap)) (len K) 0 0 n n sz cap (by simp [Mp.set]) (by omega)
  simpa [Mp.set] using this
theorem opBuildSliceO_ok (hT:TabOk P T) (hS:St w m (hp K)) {ty n:Nat} {parts:List (Nat×AV)} {parts':Array (Nat×Value)} (hP:PL w m parts parts'.toList) (h:opBuildSliceO T K k ty n parts) :
  RunOk P w m (Instr.buildSlice ty n parts') k:=by
 unfold opBuildSliceO at h
 cases hg:T.t.get ty with
 | none=>rw [hg] at h;exact h.elim
 | some ti =>
  rw [hg] at h
  obtain⟨i,d,z,hi,hu,hsz,_,hut,hz,hzo,_⟩:=hT.t ty ti hg
  simp only at h
  cases hU:ti.u with
  | slice e =>
   rw [hU] at h hut
   simp only at h
   cases hge:T.t.get e with
   | none=>rw [hge] at h;exact h.elim
   | some ei =>
    rw [hge] at h
    simp only at h
    split at h
    case h_2=>exact h.elim
    rename_i cs hb1 hb2 hb3 hfill
    simp only [fVL_eq,fL_eq] at h
    obtain⟨i',d',z',hi',hu',hsz',_,_,hz',hzo',_⟩:=hT.t e ei hge
    simp only [utOk] at hut
    subst hut
    have hle:n*ei.size≤16777216:=Nat.le_of_ble_eq_true hb1
    have hne:ei.size≠0:=by intro h0;rw [h0] at hb2;simp at hb2
    have hzl:ei.zero.length=ei.size:=by have:=Nat.eq_of_beq_eq_true hb3;rwa [len_eq] at this
    have hmv:=made_VL hzo' w m n (by omega)
    rw [hzl] at hmv
    obtain⟨C,hC,hV⟩:=fillA_ok (w:=w) (m:=m) ei.size parts parts'.toList hP _ _ hmv cs hfill
    have hfl:cs.length=n*ei.size:=by
     have e1:C.size=n*ei.size:=by
      have:∀ (parts':List (Nat×Value)) (A C:Array Value),Instr.fill (fun i=>some (i*ei.size,ei.size)) A parts'=some C→C.size=A.size:=by
       intro parts'
       induction parts' with
       | nil=>intro A C h;simp only [Instr.fill] at h;injection h with h;rw [h]
       | cons p ps ih =>
        intro A C h
        obtain⟨pi,pv⟩:=p
        simp only [Instr.fill] at h
        split at h
        ·simp at h
        ·have e2:=ih _ _ h
         rw [e2,← Array.foldl_toList,Array.toList_zipIdx]
         have e3:=congrArg List.length (foldl_put pv.cells.toList (pi*ei.size) 0 A)
         rw [putCells_len] at e3
         simpa using e3
      rw [this _ _ _ hC]
      simp
     rw [hV.1,e1]
    by_cases hn0:n=0
    ·subst hn0
     obtain⟨m',h1,h2,h3⟩:=alloc_arr hS e ei.size 0 0 C (fun i=>takeN (dropN cs (i*ei.size)) ei.size) (by omega) (by simp [maxLen]) (by rw [← hV.1,hfl]) (fun i hi=>by omega)
     refine⟨_,_,m',_,_,?_,h1,h2,h3,h⟩
     have e0:(Array.range (0*ei.size)).map (z'.cells[· % z'.cells.size]!)=#[]:=by simp
     rw [e0] at hC
     rw [← hsz'] at hC
     simp only [Instr.buildSlice,run_underlying hu,sizeOf,typeInfo,hi',newRow,Sem.run_bind,run_program,Sem.run_pure,Result.andThen_ok,Nat.zero_mul,if_true,Sem.run_ite]
     simp
     have e3:Array.map (fun _:Nat=>(default:Value)) (Array.range 0)=#[]:=Array.eq_empty_of_size_eq_zero (by simp)
     rw [e3,hC]
     simp
    ·obtain⟨m',h1,h2,h3⟩:=alloc_arr hS e ei.size n n C (fun i=>takeN (dropN cs (i*ei.size)) ei.size) (by omega) (by
       have:n≤n*ei.size:=Nat.le_mul_of_pos_right _ (by omega)
       simp only [maxLen];omega) (by rw [← hV.1,hfl]) (fun q hq=>by
      have hroom:(q+1)*ei.size≤n*ei.size:=Nat.mul_le_mul_right _ (by omega)
      rw [Nat.add_mul,Nat.one_mul] at hroom
      simp only [takeN_eq,dropN_eq]
      refine⟨by simp;omega,fun j hj=>?_⟩
      have hj':j<ei.size:=by simp at hj;omega
      obtain⟨u,hu1,hu2⟩:=hV.get? (q*ei.size+j) (by omega)
      exact⟨u,hu1,by simpa using hu2⟩)
     refine⟨_,_,m',_,_,?_,h1,h2,h3,h⟩
     have hnz:¬ n*ei.size=0:=Nat.mul_ne_zero hn0 hne
     have hnle:¬ 16777216<n*ei.size:=by omega
     simp [Instr.buildSlice,run_underlying hu,sizeOf,typeInfo,hi',hsz',zeroValue,hz',newRow,hnle]
     rw [if_neg hnz]
     simp [hC]
  | _=>rw [hU] at h;exact h.elim
theorem fillA_one (cs:List AV) (i:Nat) {v:AV} (hv:v.one=true) (l:List (Nat×AV)):fillA 1 cs ((i,v)::l)=match Nat.ble (i*1+1) (len cs) with
  | true=>fillA 1 (putCells cs (i*1) [v]) l
  | false=>none:=by
 cases v<;>first|(simp [AV.one] at hv;done)|(simp only [fillA];cases Nat.ble (i*1+1) (len cs)<;>rfl)
theorem gath_fill (parts:List (Nat×AV)):∀ (pre:List AV) (q:List AV→Prop),gath parts pre.length q→∃ l,q l∧∀ rest:List AV,rest.length=l.length→fillA 1 (pre++rest) parts=some (pre++l):=by
 induction parts with
 | nil =>
  intro pre q h
  refine⟨[],h,fun rest hr=>?_⟩
  cases rest with
  | nil=>rfl
  | cons a r=>simp at hr
 | cons x parts ih =>
  intro pre q h
  obtain⟨i,v⟩:=x
  rw [gath_cons] at h
  cases hb:Nat.beq i pre.length with
  | false=>rw [hb] at h;exact h.elim
  | true =>
   rw [hb] at h
   have:=Nat.eq_of_beq_eq_true hb
   subst this
   cases hv:v.one with
   | false=>rw [hv] at h;exact h.elim
   | true =>
    rw [hv] at h
    simp only [fV_eq] at h
    obtain⟨l,h1,h2⟩:=ih (pre++[v]) (fun l=>q (v::l)) (by simpa using h)
    refine⟨v::l,h1,fun rest hr=>?_⟩
    cases rest with
    | nil=>simp at hr
    | cons a rest =>
     have hbl:Nat.ble (pre.length+1) (len (pre++a::rest))=true:=by rw [len_eq];simp
     have hs:setN (pre++a::rest) pre.length v=pre++v::rest:=by rw [setN_eq];simp
     have h3:=h2 rest (by simpa using hr)
     rw [fillA_one _ _ hv]
     simp only [Nat.mul_one,hbl,putCells,hs]
     simpa using h3
theorem opBuildSlice_old {ty n:Nat} {parts:List (Nat×AV)} (h:opBuildSlice T K k ty n parts):opBuildSliceO T K k ty n parts:=by
 unfold opBuildSlice at h
 cases hg:T.t.get ty with
 | none=>rw [hg] at h;exact h.elim
 | some ti =>
  rw [hg] at h
  simp only at h
  cases hU:ti.u with
  | slice e =>
   rw [hU] at h
   simp only at h
   cases he:T.t.get e with
   | none=>rw [he] at h;exact h.elim
   | some ei =>
    rw [he] at h
    simp only at h
    cases h1:Nat.beq ei.size 1 with
    | false=>rw [h1] at h;exact h
    | true =>
     rw [h1] at h
     have hs:=Nat.eq_of_beq_eq_true h1
     simp only at h
     split at h
     case h_2=>exact h.elim
     rename_i hm hz
     obtain⟨l,h2,h3⟩:=gath_fill parts [] _ h
     cases hl:Nat.beq (len l) n with
     | false=>rw [hl] at h2;exact h2.elim
     | true =>
      rw [hl] at h2
      have hn:=Nat.eq_of_beq_eq_true hl
      rw [len_eq] at hn
      have hzl:ei.zero.length=1:=by have:=Nat.eq_of_beq_eq_true hz;rwa [len_eq] at this
      have h4:=h3 (reps (pvs ei.zero) n) (by rw [reps_len,pvs_len,hzl,hn,Nat.mul_one])
      simp only [List.nil_append] at h4
      have h6:Nat.beq 1 0=false:=rfl
      unfold opBuildSliceO
      simp only [hg,hU,he,hs,Nat.mul_one,hm,hz,h4,h6,fVL_eq]
      simp only [hs,Nat.mul_one] at h2
      exact h2
  | _=>rw [hU] at h;exact h.elim
theorem opBuildSlice_ok (hT:TabOk P T) (hS:St w m (hp K)) {ty n:Nat} {parts:List (Nat×AV)} {parts':Array (Nat×Value)} (hP:PL w m parts parts'.toList) (h:opBuildSlice T K k ty n parts) :
  RunOk P w m (Instr.buildSlice ty n parts') k:=opBuildSliceO_ok hT hS hP (opBuildSlice_old h)
theorem opMakeSlice_ok (hT:TabOk P T) (hS:St w m (hp K)) {ty:Nat} {l c:AV} {ul uc:Value} (hl:V w m l ul) (hc:V w m c uc) (h:opMakeSlice T K k ty l c):RunOk P w m (Instr.makeSlice ty ul uc) k:=by
 unfold opMakeSlice at h
 cases hg:T.t.get ty with
 | none=>rw [hg] at h;exact h.elim
 | some ti =>
  rw [hg] at h
  obtain⟨i,d,z,hi,hu,hsz,_,hut,hz,hzo,_⟩:=hT.t ty ti hg
  simp only at h
  cases hU:ti.u with
  | slice e =>
   rw [hU] at h hut
   simp only at h
   cases hge:T.t.get e with
   | none=>rw [hge] at h;exact h.elim
   | some ei =>
    rw [hge] at h
    simp only at h
    cases hl with
    | p v u hv =>
     cases hv with
     | int q n =>
      simp only at h
      cases hc with
      | p v u hv =>
       cases hv with
       | int q' c =>
        simp only at h
        split at h
        case h_2=>exact h.elim
        rename_i hb2 hb3
        obtain⟨⟨h0,hnc,h63,hby⟩,h⟩:=h
        simp only [fVL_eq,fL_eq] at h
        obtain⟨i',d',z',hi',hu',hsz',hby',_,hz',hzo',_⟩:=hT.t e ei hge
        simp only [utOk] at hut
        subst hut
        have hne:ei.size≠0:=by intro h0;rw [h0] at hb2;simp at hb2
        have hzl:ei.zero.length=ei.size:=by have:=Nat.eq_of_beq_eq_true hb3;rwa [len_eq] at this
        have hr:=run_make (P:=P) w ty e i' z' hu hi' hz' q q' n c h0 hnc (by rw [hby'];omega) h63
        obtain⟨nn,rfl⟩:=Int.eq_ofNat_of_zero_le h0
        obtain⟨cc,rfl⟩:=Int.eq_ofNat_of_zero_le (Int.le_trans h0 hnc)
        simp only [Int.toNat_natCast] at hr h
        have hmv:=made_VL hzo' w m cc (by omega)
        rw [hzl] at hmv
        have hms:(Array.range (cc*ei.size)).map (z'.cells[· % z'.cells.size]!)=madeCells z'.cells (cc*ei.size):=rfl
        rw [hms] at hmv
        obtain⟨m',h1,h2,h3⟩:=alloc_arr hS e ei.size nn cc (madeCells z'.cells (cc*ei.size)) (fun _=>pvs ei.zero) (by omega) (by simp only [maxLen];omega) (by rw [size_madeCells]) (fun p hp=>by
         have hroom:(p+1)*ei.size≤cc*ei.size:=Nat.mul_le_mul_right _ (by omega)
         rw [Nat.add_mul,Nat.one_mul] at hroom
         refine⟨by rw [pvs_len,hzl],fun j hj=>?_⟩
         rw [pvs_len,hzl] at hj
         have hlen:(reps (pvs ei.zero) cc).length=cc*ei.size:=by rw [reps_len,pvs_len,hzl]
         obtain⟨u,hu1,hu2⟩:=hmv.get? (p*ei.size+j) (by omega)
         refine⟨u,hu1,?_⟩
         rw [reps_get _ _ _ _ (by rw [pvs_len];omega)] at hu2
         have e2:(p*ei.size+j) % (pvs ei.zero).length=j:=by
          rw [pvs_len,hzl,Nat.mul_comm,Nat.mul_add_mod]
          exact Nat.mod_eq_of_lt hj
         simpa [e2] using hu2)
        refine⟨_,_,m',_,_,by rw [hr,hsz'],h1,h2,h3,h⟩
       | _=>exact h.elim
      | _=>exact h.elim
     | _=>exact h.elim
    | _=>exact h.elim
  | _=>rw [hU] at h;exact h.elim
end
end Go.AE
