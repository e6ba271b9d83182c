/-
  On the way to what follows: part 2 of 0.
-/
import Derived.Deep.Upon
import Derived.Lib.ConvBytes
import Derived.Laws.AppendOwn
import Derived.Below
import Derived.ArgAppend
import Derived.Tactics
import Derived.Test.YtcmepkfefoidcaaGreatDoorPk1
set_option linter.unusedVariables false
set_option linter.unusedSimpArgs false
namespace Go.AE
section
variable {P:Program} {T:Tab} {w:World} {m:Mp} {K:List ABlk} {k:AV→List ABlk→Prop}
theorem kInt (w:World) (m:Mp) (q:IntKind) (n:Int):V w m (.p (.int q n)) (.int q n):=.p _ _ (.int q n)
theorem kBool (w:World) (m:Mp) (b:Bool):V w m (.p (.bool b)) (.bool b):=.p _ _ (.bool b)
theorem kStr (w:World) (m:Mp) (s:ByteArray):V w m (.p (.str s.data.toList)) (.string s):=.p _ _ (.str s _ rfl)
theorem opInt_ok (hS:St w m (hp K)) {op:BinOp} {q:IntKind} {a b:Int} {t:TypeId} (h:opInt K k op q a b):RunOk P w m (binOp op t (.int q a) (.int q b)) k:=by
 cases op with
 | add=>exact RunOk.same hS (by simp [binOp,Op.intArith]) (kInt ..) h
 | sub=>exact RunOk.same hS (by simp [binOp,Op.intArith]) (kInt ..) h
 | mul=>exact RunOk.same hS (by simp [binOp,Op.intArith]) (kInt ..) h
 | quo =>
  obtain⟨h0,h⟩:=h
  exact RunOk.same hS (by simp [binOp,Op.intDiv,h0]) (kInt ..) h
 | rem =>
  obtain⟨h0,h⟩:=h
  exact RunOk.same hS (by simp [binOp,Op.intDiv,h0]) (kInt ..) h
 | eql=>exact RunOk.same hS (by simp [binOp,Op.intCmp]) (kBool ..) h
 | neq=>exact RunOk.same hS (by simp [binOp,Op.intCmp]) (kBool ..) h
 | lss=>exact RunOk.same hS (by simp [binOp,Op.intCmp]) (kBool ..) h
 | leq=>exact RunOk.same hS (by simp [binOp,Op.intCmp]) (kBool ..) h
 | gtr=>exact RunOk.same hS (by simp [binOp,Op.intCmp]) (kBool ..) h
 | geq=>exact RunOk.same hS (by simp [binOp,Op.intCmp]) (kBool ..) h
 | and=>exact RunOk.same hS (by simp [binOp,intBits_and]) (kInt ..) h
 | or=>exact RunOk.same hS (by simp [binOp,intBits_or]) (kInt ..) h
 | andNot=>exact RunOk.same hS (by simp [binOp,intBits_andNot]) (kInt ..) h
 | _=>exact h.elim
theorem opShift_ok (hS:St w m (hp K)) {op:BinOp} {q q':IntKind} {a b:Int} {t:TypeId} (h:opShift K k op q a b):RunOk P w m (binOp op t (.int q a) (.int q' b)) k:=by
 cases op with
 | shl =>
  obtain⟨h0,h⟩:=h
  exact RunOk.same hS (by simp [binOp,Op.shift,Int.not_lt.mpr h0]) (kInt ..) h
 | shr =>
  obtain⟨h0,h⟩:=h
  exact RunOk.same hS (by simp [binOp,Op.shift,Int.not_lt.mpr h0]) (kInt ..) h
 | _=>exact h.elim
theorem toList_data (s:ByteArray):s.toList=s.data.toList:=by
 have:∀ (i:Nat) (r:List UInt8),ByteArray.toList.loop s i r=r.reverse++s.data.toList.drop i:=by
  intro i r
  induction hn:s.size - i generalizing i r with
  | zero =>
   unfold ByteArray.toList.loop
   rw [if_neg (by omega)]
   have:s.data.toList.drop i=[]:=List.drop_eq_nil_of_le (by simp;have:=s.size_data;omega)
   simp [this]
  | succ n ih =>
   unfold ByteArray.toList.loop
   have hi:i<s.size:=by omega
   rw [if_pos hi,ih (i+1) _ (by omega)]
   have hd:s.data.toList.drop i=s.get! i::s.data.toList.drop (i+1):=by
    rw [List.drop_eq_getElem_cons (by simp;exact hi)]
    congr 1
    simp only [ByteArray.get!,Array.getElem_toList]
    exact (getElem!_pos s.data i hi).symm
   rw [hd]
   simp
 have:=this 0 []
 simpa [ByteArray.toList] using this
theorem opStr_ok (hS:St w m (hp K)) {op:BinOp} {a b:ByteArray} {t:TypeId} (h:opStr K k op a.data.toList b.data.toList):RunOk P w m (binOp op t (.string a) (.string b)) k:=by
 cases op with
 | add =>
  obtain⟨h0,h⟩:=h
  simp only [Array.length_toList] at h0
  have h1:¬ ((a.size+b.size:Nat):Int)>IntKind.i64.max:=by
   have e:IntKind.i64.max=9223372036854775807:=by decide
   have e1:a.data.size=a.size:=rfl
   have e2:b.data.size=b.size:=rfl
   rw [e];omega
  refine RunOk.same hS (u:=.string (a++b)) (by simp only [binOp,Op.stringOp,if_neg h1,Sem.run_pure]) ?_ h
  exact .p _ _ (.str _ _ (by simp))
 | eql=>exact RunOk.same hS rfl (kBool ..) (by rw [toList_data,toList_data];exact h)
 | neq=>exact RunOk.same hS rfl (kBool ..) (by rw [toList_data,toList_data];exact h)
 | lss=>exact RunOk.same hS rfl (kBool ..) (by rw [toList_data,toList_data];exact h)
 | leq=>exact RunOk.same hS rfl (kBool ..) (by rw [toList_data,toList_data];exact h)
 | gtr=>exact RunOk.same hS rfl (kBool ..) (by rw [toList_data,toList_data];exact h)
 | geq=>exact RunOk.same hS rfl (kBool ..) (by rw [toList_data,toList_data];exact h)
 | _=>exact h.elim
theorem equalIn_bool {t:TypeId} (hu:P.underlying t=some .bool) (d:Nat) (a b:Bool) (w:World):(Op.equalIn (d+1) t (.bool a) (.bool b)).run P w=.ok (a==b) w:=by
 simp [Op.equalIn,run_underlying hu]
theorem bytes_beq (s s':ByteArray):(s==s')=(s.data.toList==s'.data.toList):=by
 show s.beq s'=_
 unfold ByteArray.beq
 rw [Bool.eq_iff_iff,beq_iff_eq,beq_iff_eq]
 exact⟨fun h=>by rw [h],fun h=>Array.toList_inj.1 h⟩
theorem okC_ok {n:Nat} {a b:AV} {u v:Value} (h:okC n a b=true) (hu:V w m a u) (hv:V w m b v):okV n u v∧eqV u v=eqC a b:=by
 unfold okC at h
 split at h
 case h_4=>cases h
 all_goals (split at h<;>first|cases h|(split at h<;>first|cases h|skip))
 ·have h:=of_decide_eq_true h
  subst h
  cases hu with
  | p _ _ hu=>cases hv with
   | p _ _ hv=>cases hu;cases hv;exact⟨rfl,rfl⟩
 ·cases hu with
  | p _ _ hu=>cases hv with
   | p _ _ hv=>cases hu;cases hv;exact⟨trivial,rfl⟩
 ·cases hu with
  | p _ _ hu=>cases hv with
   | p _ _ hv =>
    cases hu with
    | str s _ e=>cases hv with
     | str s' _ e'=>subst e e';exact⟨trivial,bytes_beq s s'⟩
theorem okCs_ok:∀ {ks:List Nat} {xs ys:List AV} {A B:List Value},okCs ks xs ys=true→xs.length=A.length→ys.length=B.length→(∀ j (hj:j<xs.length) (hj':j<A.length),V w m xs[j] A[j])→(∀ j (hj:j<ys.length) (hj':j<B.length),V w m ys[j] B[j]) →
  A.length=ks.length∧B.length=ks.length∧(∀ j,j<ks.length→okV (ks.getD j 0) (A.getD j undef) (B.getD j undef))∧((List.range ks.length).all fun j=>eqV (A.getD j undef) (B.getD j undef))=eqCs xs ys
 | [],[],[],A,B,h,hA,hB,_,_=>by
  obtain rfl:=List.length_eq_zero_iff.1 hA.symm
  obtain rfl:=List.length_eq_zero_iff.1 hB.symm
  exact⟨rfl,rfl,fun j hj=>by simp at hj,rfl⟩
 | k::ks,a::xs,b::ys,u::A,v::B,h,hA,hB,hv,hw=>by
  simp only [okCs] at h
  split at h
  ·rename_i h0
   obtain⟨h1,h2⟩:=okC_ok h0 (hv 0 (by simp) (by simp)) (hw 0 (by simp) (by simp))
   obtain⟨h3,h4,h5,h6⟩:=okCs_ok (A:=A) (B:=B) h (by simpa using hA) (by simpa using hB) (fun j hj hj'=>hv (j+1) (by simpa using hj) (by simpa using hj')) (fun j hj hj'=>hw (j+1) (by simpa using hj) (by simpa using hj'))
   refine⟨by simp [h3],by simp [h4],fun j hj=>?_,?_⟩
   ·cases j with
    | zero=>simpa using h1
    | succ j=>simpa using h5 j (by simpa using hj)
   ·rw [List.length_cons,List.range_succ_eq_map,List.all_cons,List.all_map]
    simp only [eqCs]
    rw [← h6]
    congr 1
  ·cases h
 | [],_::_,_,_,_,h,_,_,_,_=>by simp [okCs] at h
 | [],[],_::_,_,_,h,_,_,_,_=>by simp [okCs] at h
 | _::_,[],_,_,_,h,_,_,_,_=>by simp [okCs] at h
 | _::_,_::_,[],_,_,h,_,_,_,_=>by simp [okCs] at h
 | _::_,_::_,_::_,[],_,_,hA,_,_,_=>by simp at hA
 | _::_,_::_,_::_,_::_,[],_,_,hB,_,_=>by simp at hB
theorem opEqAgg_ok (hT:TabOk P T) (hS:St w m (hp K)) {op:BinOp} {t:TypeId} {xs ys:List AV} {A B:Array Value} (hA:VL w m xs A) (hB:VL w m ys B) (ox oy:Operand) (h:opEqAgg T K k op t xs ys) :
  RunOk P w m (do eqGuard op t ox oy (.agg A) (.agg B);binOp op t (.agg A) (.agg B)) k:=by
 unfold opEqAgg at h
 cases he:eqTy T.e t with
 | none=>rw [he] at h;exact h.elim
 | some ks =>
  rw [he] at h
  simp only at h
  obtain⟨hg,hE⟩:=hT.e t ks he
  cases hk:okCs ks xs ys with
  | false=>rw [hk] at h;exact h.elim
  | true =>
   rw [hk] at h
   simp only at h
   obtain⟨h1,h2,h3,h4⟩:=okCs_ok (w:=w) (m:=m) (A:=A.toList) (B:=B.toList) hk (by simpa using hA.1) (by simpa using hB.1) (fun j hj hj'=>by have:=hA.2 j hj (by simpa using hj');simpa using this) (fun j hj hj'=>by have:=hB.2 j hj (by simpa using hj');simpa using this)
   have hgd:∀ (A:Array Value) j,A.toList.getD j undef=A.getD j undef:=fun A j=>by simp [List.getD_eq_getElem?_getD,Array.getD_eq_getD_getElem?]
   simp only [hgd] at h3 h4
   have heq:=hE w A B (by simpa using h1) (by simpa using h2) ⟨by simp at h1;omega,by simp at h2;omega,fun j hj=>by rw [Nat.zero_add];exact h3 j hj⟩
   have hs:segEq A B 0 ks.length=eqCs xs ys:=by rw [← h4];unfold segEq;simp only [Nat.zero_add]
   rw [hs] at heq
   have hguard:(eqGuard op t ox oy (.agg A) (.agg B)).run P w=.ok () w:=by
    unfold eqGuard
    cases op<;>simp [hg]
   cases op with
   | eql=>exact RunOk.same hS (by rw [Sem.run_bind,hguard];simp [binOp,heq]) (kBool ..) h
   | neq=>exact RunOk.same hS (by rw [Sem.run_bind,hguard];simp [binOp,heq]) (kBool ..) h
   | _=>exact h.elim
theorem opBin_ok (hT:TabOk P T) (hS:St w m (hp K)) {op:BinOp} {t:TypeId} {x y:AV} {u v:Value} (hx:V w m x u) (hy:V w m y v) (ox oy:Operand) (h:opBin T K k op t x y) :
  RunOk P w m (do eqGuard op t ox oy u v;binOp op t u v) k:=by
 cases hx with
 | p x u hx =>
  cases hx with
  | int q a =>
   cases hy with
   | p y v hy =>
    cases hy with
    | int q' b =>
     simp only [opBin] at h
     have hgd:(eqGuard op t ox oy (.int q a) (.int q' b)).run P w=.ok () w:=by unfold eqGuard;cases op<;>rfl
     split at h
     ·obtain⟨u,w',m',a',K',h1,h2⟩:=opShift_ok (P:=P) (t:=t) (q':=q') hS h
      refine⟨u,w',m',a',K',?_,h2⟩
      rw [Sem.run_bind,hgd]
      exact h1
     split at h
     ·rename_i e
      have e:=of_decide_eq_true e
      subst e
      obtain⟨u,w',m',a',K',h1,h2⟩:=opInt_ok (P:=P) (t:=t) hS h
      refine⟨u,w',m',a',K',?_,h2⟩
      rw [Sem.run_bind]
      have:(eqGuard op t ox oy (.int q a) (.int q b)).run P w=.ok () w:=by unfold eqGuard;cases op<;>rfl
      rw [this]
      exact h1
     ·exact h.elim
    | _=>exact h.elim
   | _=>exact h.elim
  | str s l hl =>
   cases hy with
   | p y v hy =>
    cases hy with
    | str s' l' hl' =>
     subst hl hl'
     obtain⟨u,w',m',a',K',h1,h2⟩:=opStr_ok (P:=P) (t:=t) hS h
     refine⟨u,w',m',a',K',?_,h2⟩
     rw [Sem.run_bind]
     have:(eqGuard op t ox oy (.string s) (.string s')).run P w=.ok () w:=by unfold eqGuard;cases op<;>rfl
     rw [this]
     exact h1
    | _=>exact h.elim
   | _=>exact h.elim
  | bool a =>
   cases hy with
   | p y v hy =>
    cases hy with
    | bool b =>
     simp only [opBin] at h
     cases hg:T.t.get t with
     | none=>rw [hg] at h;exact h.elim
     | some ti =>
      rw [hg] at h
      obtain⟨i,d,z,hi,hu,hsz,_,hut,_⟩:=hT.t t ti hg
      simp only at h
      cases hU:ti.u with
      | bool =>
       rw [hU] at h hut
       simp only [utOk] at hut
       subst hut
       have hgd:∀ op,(eqGuard op t ox oy (.bool a) (.bool b)).run P w=.ok () w:=by intro op;unfold eqGuard;cases op<;>rfl
       have heq:(Op.equal t (.bool a) (.bool b)).run P w=.ok (a==b) w:=by
        exact equalIn_bool hu 9999 a b w
       cases op with
       | eql=>exact RunOk.same hS (by rw [Sem.run_bind,hgd];simp [binOp,heq]) (kBool ..) h
       | neq=>exact RunOk.same hS (by rw [Sem.run_bind,hgd];simp [binOp,heq]) (kBool ..) h
       | _=>exact h.elim
      | _=>rw [hU] at h;exact h.elim
    | _=>exact h.elim
   | _=>exact h.elim
  | _=>exact h.elim
 | agg xs A hA hv =>
  cases hy with
  | agg ys B hB hw=>exact opEqAgg_ok hT hS ⟨hA,hv⟩ ⟨hB,hw⟩ ox oy h
  | _=>exact h.elim
 | _=>exact h.elim
theorem equalIn_ii {t:TypeId} {ms} (hu:P.underlying t=some (.interface ms)) (d:Nat) (w:World):(Op.equalIn (d+1) t .nilIface .nilIface).run P w=.ok true w:=by
 simp [Op.equalIn,run_underlying hu]
theorem equalIn_iv {t:TypeId} {ms} (hu:P.underlying t=some (.interface ms)) (d:Nat) (t':TypeId) (u:Value) (w:World):(Op.equalIn (d+1) t (.iface t' u) .nilIface).run P w=.ok false w:=by
 simp [Op.equalIn,run_underlying hu]
theorem equalIn_pp {t e:TypeId} (hu:P.underlying t=some (.pointer e)) (d:Nat) (w:World):(Op.equalIn (d+1) t (.pointer none) (.pointer none)).run P w=.ok true w:=by
 simp [Op.equalIn,run_underlying hu]
theorem equalIn_pv {t e:TypeId} (hu:P.underlying t=some (.pointer e)) (d:Nat) (a:Addr) (w:World):(Op.equalIn (d+1) t (.pointer (some a)) (.pointer none)).run P w=.ok false w:=by
 simp [Op.equalIn,run_underlying hu]
theorem equalIn_ff {t:TypeId} {a b c} (hu:P.underlying t=some (.func a b c)) (d:Nat) (w:World):(Op.equalIn (d+1) t .nilFunc .nilFunc).run P w=.ok true w:=by
 simp [Op.equalIn,run_underlying hu]
theorem equalIn_fv {t:TypeId} {a b c} (hu:P.underlying t=some (.func a b c)) (d:Nat) (f:Fn) (x y:Array Value) (w:World):(Op.equalIn (d+1) t (.func f x y) .nilFunc).run P w=.ok false w:=by
 simp [Op.equalIn,run_underlying hu]
theorem nilC_val {y:Operand} {c:PV} (h:nilC y=some c):(y=.const .nilIface∧c=.nili)∨(y=.const (.pointer none)∧c=.nilp)∨(y=.const .nilFunc∧c=.nilf):=by
 unfold nilC at h
 split at h<;>simp_all
theorem opNilCmp_ok (hT:TabOk P T) (hS:St w m (hp K)) {op:BinOp} {t:TypeId} {x:AV} {u v:Value} (hx:V w m x u) (ox oy:Operand) {c:PV} (hc:nilC oy=some c) (hv:oy=.const v) (h:opNilCmp T K k op t x c) :
  RunOk P w m (do eqGuard op t ox oy u v;binOp op t u v) k:=by
 unfold opNilCmp at h
 cases hg:T.t.get t with
 | none=>rw [hg] at h;exact h.elim
 | some ti =>
  rw [hg] at h
  obtain⟨i,d,z,hi,hu,hsz,_,hut,_⟩:=hT.t t ti hg
  simp only at h
  cases hn:nilOf ti.u c x with
  | none=>rw [hn] at h;exact h.elim
  | some b =>
   rw [hn] at h
   simp only at h
   have key:∀ op,(op=.eql∨op=.neq)→(eqGuard op t ox oy u v).run P w=.ok () w∧(Op.equal t u v).run P w=.ok b w∧(binOp .eql t u v=(do pure (.bool (← Op.equal t u v))))∧(binOp .neq t u v=(do pure (.bool (!(← Op.equal t u v))))):=by
    intro op hop
    subst hv
    unfold nilOf at hn
    cases hU:ti.u with
    | iface =>
     rw [hU] at hn hut
     obtain⟨ms,rfl⟩:=hut
     rcases nilC_val hc with ⟨hv,rfl⟩|⟨_,rfl⟩|⟨_,rfl⟩
     ·injection hv with hv
      subst hv
      simp only at hn
      cases hx with
      | p x u hx =>
       cases hx with
       | nili =>
        simp only [Option.some.injEq] at hn
        subst hn
        refine⟨?_,equalIn_ii hu 9999 w,rfl,rfl⟩
        unfold eqGuard
        rcases hop with rfl|rfl<;>simp
       | _=>simp at hn
      | iface t' a u' hx =>
       simp only [Option.some.injEq] at hn
       subst hn
       refine⟨?_,equalIn_iv hu 9999 _ _ w,rfl,rfl⟩
       unfold eqGuard
       rcases hop with rfl|rfl<;>rfl
      | _=>simp at hn
     ·simp at hn
     ·simp at hn
    | ptr e =>
     rw [hU] at hn hut
     simp only [utOk] at hut
     subst hut
     rcases nilC_val hc with ⟨_,rfl⟩|⟨hv,rfl⟩|⟨_,rfl⟩
     ·simp at hn
     ·injection hv with hv
      subst hv
      simp only at hn
      cases hx with
      | p x u hx =>
       cases hx with
       | nilp =>
        simp only [Option.some.injEq] at hn
        subst hn
        refine⟨?_,equalIn_pp hu 9999 w,rfl,rfl⟩
        unfold eqGuard
        rcases hop with rfl|rfl<;>rfl
       | _=>simp at hn
      | ptr =>
       simp only [Option.some.injEq] at hn
       subst hn
       refine⟨?_,equalIn_pv hu 9999 _ w,rfl,rfl⟩
       unfold eqGuard
       rcases hop with rfl|rfl<;>rfl
      | ptrOld =>
       simp only [Option.some.injEq] at hn
       subst hn
       refine⟨?_,equalIn_pv hu 9999 _ w,rfl,rfl⟩
       unfold eqGuard
       rcases hop with rfl|rfl<;>rfl
      | rop =>
       simp only [Option.some.injEq] at hn
       subst hn
       refine⟨?_,equalIn_pv hu 9999 _ w,rfl,rfl⟩
       unfold eqGuard
       rcases hop with rfl|rfl<;>rfl
      | _=>simp at hn
     ·simp at hn
    | func =>
     rw [hU] at hn hut
     obtain⟨a1,a2,a3,rfl⟩:=hut
     rcases nilC_val hc with ⟨_,rfl⟩|⟨_,rfl⟩|⟨hv,rfl⟩
     ·simp at hn
     ·simp at hn
     ·injection hv with hv
      subst hv
      simp only at hn
      cases hx with
      | p x u hx =>
       cases hx with
       | nilf =>
        simp only [Option.some.injEq] at hn
        subst hn
        refine⟨?_,equalIn_ff hu 9999 w,rfl,rfl⟩
        unfold eqGuard
        rcases hop with rfl|rfl<;>rfl
       | fn =>
        simp only [Option.some.injEq] at hn
        subst hn
        refine⟨?_,equalIn_fv hu 9999 _ _ _ w,rfl,rfl⟩
        unfold eqGuard
        rcases hop with rfl|rfl<;>rfl
       | _=>simp at hn
      | fn =>
       simp only [Option.some.injEq] at hn
       subst hn
       refine⟨?_,equalIn_fv hu 9999 _ _ _ w,rfl,rfl⟩
       unfold eqGuard
       rcases hop with rfl|rfl<;>rfl
      | _=>simp at hn
    | _=>rw [hU] at hn;simp at hn
   cases op with
   | eql =>
    obtain⟨k1,k2,k3,_⟩:=key .eql (.inl rfl)
    exact RunOk.same hS (by rw [Sem.run_bind,k1];simp [k3,k2]) (kBool ..) h
   | neq =>
    obtain⟨k1,k2,_,k4⟩:=key .neq (.inr rfl)
    exact RunOk.same hS (by rw [Sem.run_bind,k1];simp [k4,k2]) (kBool ..) h
   | _=>exact h.elim
theorem opUn_ok (hS:St w m (hp K)) {op:UnOp} {x:AV} {u:Value} (hx:V w m x u) (h:opUn K k op x):RunOk P w m (Op.unary op u) k:=by
 cases op with
 | not =>
  cases hx with
  | p x u hx =>
   cases hx with
   | bool b=>exact RunOk.same hS rfl (kBool ..) h
   | _=>exact h.elim
  | _=>exact h.elim
 | neg =>
  cases hx with
  | p x u hx =>
   cases hx with
   | int q n=>exact RunOk.same hS rfl (kInt ..) h
   | _=>exact h.elim
  | _=>exact h.elim
 | _=>exact h.elim
def Mp.addI (m:Mp) (g:Nat):Mp:={ m with I:=fun b=>m.I b∨b=g }
theorem Tr.addI {w w':World} {m:Mp} {g:Nat} (hI:∀ b,m.I b→b<w.heap.size) (h:RowKit.Below w.heap.size w w') (hg:w.heap.size≤g):Tr w m w' (m.addI g) where
 os:=h.os
 tape:=h.tape
 output:=h.output
 size:=h.size
 out:=fun b hb _=>h.block b hb
 imm:=fun _ hb=>.inl hb
 same:=fun b hb=>h.block b (hI b hb)
 newI:=fun b hb=>by
  rcases hb with hb|rfl
  ·exact .inl hb
  ·exact .inr (.inr hg)
 step:=fun r=>Inf.step_refl _ _ rfl
 newρ:=fun r hr=>.inl ⟨hr,rfl⟩
theorem St.addI {w w':World} {m:Mp} {H:Nat→ABlk} {g:Nat} (hS:St w m H) (h:RowKit.Below w.heap.size w w') (hg:w.heap.size≤g) (hg':g<w'.heap.size):St w' (m.addI g) H:=by
 have hT:=Tr.addI hS.Ilt h hg
 refine⟨hS.inj,fun r hr hI=>?_,fun r hr=>Nat.lt_of_lt_of_le (hS.lt r hr) h.size,fun b hb=>?_,hS.gl.mono hT.imm hT.same,fun r=>?_⟩
 ·rcases hI with hI|hI
  ·exact hS.notI r hr hI
  ·have:=hS.lt r hr
   have hI:m.ρ r=g:=hI
   omega
 ·rcases hb with hb|rfl
  ·exact Nat.lt_of_lt_of_le (hS.Ilt b hb) h.size
  ·exact hg'
 ·have hk:=hS.blk r
  by_cases hl:(m.L r).isLive
  ·exact hk.mono (h.block _ (hS.lt r hl)) (fun _ _ hv=>hv.mono hT)
  ·exact hk.nolive hl
theorem Tr.below {w w':World} {m:Mp} (hI:∀ b,m.I b→b<w.heap.size) (h:RowKit.Below w.heap.size w w'):Tr w m w' m where
 os:=h.os
 tape:=h.tape
 output:=h.output
 size:=h.size
 out:=fun b hb _=>h.block b hb
 imm:=fun _ hb=>hb
 same:=fun b hb=>h.block b (hI b hb)
 newI:=fun b hb=>.inl hb
 step:=fun r=>Inf.step_refl _ _ rfl
 newρ:=fun r hr=>.inl ⟨hr,rfl⟩
theorem St.below {w w':World} {m:Mp} {H:Nat→ABlk} (hS:St w m H) (h:RowKit.Below w.heap.size w w'):St w' m H:=by
 have hT:=Tr.below hS.Ilt h
 refine⟨hS.inj,hS.notI,fun r hr=>Nat.lt_of_lt_of_le (hS.lt r hr) h.size,fun b hb=>Nat.lt_of_lt_of_le (hS.Ilt b hb) h.size,hS.gl.mono hT.imm hT.same,fun r=>?_⟩
 have hk:=hS.blk r
 by_cases hl:(m.L r).isLive
 ·exact hk.mono (h.block _ (hS.lt r hl)) (fun _ _ hv=>hv.mono hT)
 ·exact hk.nolive hl
theorem bytesWorld_below (w:World) (e:TypeId) (s:ByteArray):RowKit.Below w.heap.size w (Lib.bytesWorld w e s) :=
 ⟨rfl,rfl,rfl,by rw [Lib.bytesWorld_size];omega,fun j hj=>Lib.bytesWorld_at_old w e s j hj⟩
theorem opConv_ok (hT:TabOk P T) (hS:St w m (hp K)) {src dst:TypeId} {x:AV} {u:Value} (hx:V w m x u) (h:opConv T K k src dst x):RunOk P w m (convert src dst u) k:=by
 unfold opConv at h
 cases hg:T.t.get src with
 | none=>rw [hg] at h;exact h.elim
 | some si =>
  rw [hg] at h
  simp only at h
  obtain⟨i,d,z,hi,hu,hsz,_,hut,_⟩:=hT.t src si hg
  cases hg':T.t.get dst with
  | none=>rw [hg'] at h;exact h.elim
  | some di =>
   rw [hg'] at h
   simp only at h
   obtain⟨i',d',z',hi',hu',hsz',_,hut',_⟩:=hT.t dst di hg'
   cases hU:di.u with
   | int q =>
    rw [hU] at h hut'
    simp only [utOk] at hut'
    subst hut'
    cases hx with
    | p x u hx =>
     cases hx with
     | int q' n =>
      refine RunOk.same hS ?_ (kInt ..) h
      simp only [convert,Sem.run_bind,run_underlying hu,run_underlying hu',Result.andThen_ok]
      cases d<;>rfl
     | _=>exact h.elim
    | _=>exact h.elim
   | string =>
    rw [hU] at h hut'
    simp only [utOk] at hut'
    subst hut'
    cases hx with
    | p x u hx =>
     cases hx with
     | str s l hl =>
      subst hl
      refine RunOk.same hS (u:=.string s) ?_ (kStr ..) h
      simp only [convert,Sem.run_bind,run_underlying hu,run_underlying hu',Result.andThen_ok]
      cases d<;>rfl
     | _=>exact h.elim
    | _=>exact h.elim
   | slice e =>
    rw [hU] at h hut'
    simp only [utOk] at hut'
    subst hut'
    simp only at h
    cases hge:T.t.get e with
    | none=>rw [hge] at h;exact h.elim
    | some ei =>
     rw [hge] at h
     simp only at h
     obtain⟨ie,de,ze,hie,hue,_,_,hute,_⟩:=hT.t e ei hge
     split at h
     case h_2=>exact h.elim
     rename_i hU8
     rw [hU8] at hute
     simp only [utOk] at hute
     subst hute
     cases hx with
     | p x u hx =>
      cases hx with
      | str s l hl =>
       subst hl
       obtain⟨hlen,h⟩:=h
       have hb:=bytesWorld_below w e s
       have hlt:w.heap.size<(Lib.bytesWorld w e s).heap.size:=by rw [Lib.bytesWorld_size];omega
       refine⟨_,_,m.addI w.heap.size,_,K,Lib.run_convert_string_bytes w src dst e s hu hu' hue,Tr.addI hS.Ilt hb (Nat.le_refl _),hS.addI hb (Nat.le_refl _) hlt,?_,h⟩
       have hsz:s.data.toList.length=s.size:=Array.length_toList
       have e0:s.size=s.data.toList.length:=hsz.symm
       rw [e0]
       refine .p _ _ (.sl 1 _ (byteF s.data.toList) w.heap.size 0 _ (fun i j=>.int .u8 ((s.data.toList.getD i 0).toNat:Int)) (.inr rfl) ?_ (fun i hi j hj=>?_) (fun i hi j hj=>?_))
       ·refine⟨?_,by simpa [maxLen] using hlen⟩
        show _≤grownCap w s.data.toList.length 0 e
        have:=(grownCap_ge w s.data.toList.length 0 e)
        omega
       ·have hj:j=0:=by simp only [byteF,List.length_cons,List.length_nil] at hj;omega
        subst hj
        rw [Nat.zero_add,Nat.mul_one,Nat.add_zero]
        exact Lib.bytesWorld_cell w e s i (by omega)
       ·have hj:j=0:=by simp only [byteF,List.length_cons,List.length_nil] at hj;omega
        subst hj
        exact .int ..
      | _=>exact h.elim
     | _=>exact h.elim
   | _=>rw [hU] at h;exact h.elim
theorem opIface_ok (hT:TabOk P T) (hS:St w m (hp K)) {t:TypeId} {x:AV} {u:Value} (hx:V w m x u) (h:opIface T K k t x):RunOk P w m (Instr.makeInterface t u) k:=by
 unfold opIface at h
 cases hg:T.t.get t with
 | none=>rw [hg] at h;exact h.elim
 | some ti =>
  rw [hg] at h
  simp only at h
  obtain⟨i,d,z,hi,hu,hsz,_,hut,_⟩:=hT.t t ti hg
  have hk:k (.iface t x) K∧∀ ms,d≠.interface ms:=by
   cases hU:ti.u with
   | iface=>rw [hU] at h;exact h.elim
   | other=>rw [hU] at h;exact h.elim
   | struct fs =>
    rw [hU] at h hut
    obtain⟨fields,rfl,_⟩:=hut
    exact⟨h,fun ms e=>by cases e⟩
   | func =>
    rw [hU] at h hut
    obtain⟨a,b,c,rfl⟩:=hut
    exact⟨h,fun ms e=>by cases e⟩
   | _ =>
    rw [hU] at h hut
    simp only [utOk] at hut
    subst hut
    exact⟨h,fun ms e=>by cases e⟩
  refine RunOk.same hS (u:=.iface t u) ?_ (.iface _ _ _ hx) hk.1
  simp only [Instr.makeInterface,Sem.run_bind,run_underlying hu,Result.andThen_ok]
  cases d<;>first|rfl|exact absurd rfl (hk.2 _)
def bndOk (w:World) (m:Mp):Option AV→Option Value→Prop
 | none,none=>True
 | some a,some u=>V w m a u
 | _,_=>False
theorem bnd_ok {o:Option AV} {o':Option Value} (h:bndOk w m o o') {d:Nat} {l:Int} (hl:bnd d o=some l):(o'=none∧l=(d:Int))∨∃ q,o'=some (.int q l):=by
 cases o with
 | none =>
  cases o' with
  | none=>simp [bnd] at hl;exact .inl ⟨rfl,hl.symm⟩
  | some u=>exact h.elim
 | some a =>
  cases o' with
  | none=>exact h.elim
  | some u =>
   cases h with
   | p a u h =>
    cases h with
    | int q n=>simp only [bnd,Option.some.injEq] at hl;subst hl;exact .inr ⟨q,rfl⟩
    | _=>simp [bnd] at hl
   | _=>simp [bnd] at hl
theorem sliceBounds_run (isSlice:Bool) (len cap:Nat) (hlc:len≤cap) {lo hi:Option AV} {lo' hi':Option Value} (hlo:bndOk w m lo lo') (hhi:bndOk w m hi hi') {l h:Int}
  (hl:bnd 0 lo=some l) (hh:bnd len hi=some h) (h0:0≤l) (h1:l≤h) (h2:h≤(len:Int)):(Instr.sliceBounds isSlice len cap lo' hi' none).run P w=.ok (l.toNat,h.toNat,cap) w:=by
 have hc:h≤(cap:Int):=by omega
 have e1:((h.toNat:Nat):Int)=h:=by omega
 rcases bnd_ok hlo hl with ⟨rfl,rfl⟩|⟨q,rfl⟩<;>rcases bnd_ok hhi hh with ⟨rfl,rfl⟩|⟨q',rfl⟩
 ·simp [Instr.sliceBounds]
 ·simp [Instr.sliceBounds,Instr.sliceBound,asIntOf,hc,show 0≤h by omega]
 ·simp [Instr.sliceBounds,Instr.sliceBound,asIntOf,h0,h1]
 ·simp [Instr.sliceBounds,Instr.sliceBound,asIntOf,hc,show 0≤h by omega,h0,e1,h1]
theorem opSlice_ok (hT:TabOk P T) (hS:St w m (hp K)) {t:TypeId} {x:AV} {u:Value} (hx:V w m x u) {lo hi:Option AV} {lo' hi':Option Value} (hlo:bndOk w m lo lo') (hhi:bndOk w m hi hi')
  (h:opSlice T K k t x lo hi):RunOk P w m (Instr.sliceAt t u lo' hi' none) k:=by
 unfold opSlice at h
 cases hg:T.t.get t with
 | none=>rw [hg] at h;exact h.elim
 | some ti =>
  rw [hg] at h
  simp only at h
  obtain⟨i,d,z,hi0,hu,hsz,_,hut,_⟩:=hT.t t ti hg
  cases hU:ti.u with
  | string =>
   rw [hU] at h hut
   simp only [utOk] at hut
   subst hut
   cases hx with
   | p x u hx =>
    cases hx with
    | str s l' hl' =>
     subst hl'
     simp only at h
     cases hl:bnd 0 lo with
     | none=>rw [hl] at h;exact h.elim
     | some l =>
      rw [hl] at h
      simp only at h
      cases hh:bnd s.data.toList.length hi with
      | none=>rw [hh] at h;exact h.elim
      | some hb =>
       rw [hh] at h
       simp only at h
       obtain⟨⟨h0,h1,h2⟩,h⟩:=h
       have hsl:s.data.toList.length=s.size:=by simp
       rw [hsl] at hh h2
       have hr:=sliceBounds_run (P:=P) false s.size s.size (Nat.le_refl _) hlo hhi hl hh h0 h1 h2
       refine RunOk.same hS (u:=.string (s.extract l.toNat hb.toNat)) ?_ (.p _ _ (.str _ _ ?_)) h
       ·simp [Instr.sliceAt,Instr.slice,run_underlying hu,hr]
       ·simp [List.extract_eq_take_drop,List.drop_take]
    | _=>exact h.elim
   | _=>exact h.elim
  | slice e =>
   rw [hU] at h hut
   simp only [utOk] at hut
   subst hut
   simp only at h
   cases hge:T.t.get e with
   | none=>rw [hge] at h;exact h.elim
   | some ei =>
    rw [hge] at h
    simp only at h
    obtain⟨i',d',z',hie,hu',hsz',_⟩:=hT.t e ei hge
    cases hx with
    | p x u hx =>
     cases hx with
     | sl0 sz f a c =>
      simp only at h
      cases hl:bnd 0 lo with
      | none=>rw [hl] at h;exact h.elim
      | some l =>
       rw [hl] at h
       simp only at h
       cases hh:bnd 0 hi with
       | none=>rw [hh] at h;exact h.elim
       | some hb =>
        rw [hh] at h
        simp only at h
        obtain⟨⟨h0,h1,h2,h3⟩,h⟩:=h
        have hr:=sliceBounds_run (P:=P) true 0 c (Nat.zero_le _) hlo hhi hl hh h0 h1 h2
        have e1:hb.toNat - l.toNat=0:=by omega
        rw [e1] at h
        refine RunOk.same hS (u:=.slice (if c=l.toNat then a else a.map (·.add (l.toNat*i'.size))) (hb.toNat - l.toNat) (c - l.toNat)) ?_ ?_ h
        ·simp [Instr.sliceAt,Instr.slice,run_underlying hu,hr,sizeOf,typeInfo,hie]
        ·rw [e1];exact .p _ _ (.sl0 ..)
     | sl sz n f b o c uu hI hcap hc hv =>
      simp only at h
      cases hl:bnd 0 lo with
      | none=>rw [hl] at h;exact h.elim
      | some l =>
       rw [hl] at h
       simp only at h
       cases hh:bnd n hi with
       | none=>rw [hh] at h;exact h.elim
       | some hb =>
        rw [hh] at h
        simp only at h
        obtain⟨⟨h0,h1,h2,h3⟩,h⟩:=h
        have hr:=sliceBounds_run (P:=P) true n c hcap.1 hlo hhi hl hh h0 h1 h2
        refine RunOk.same hS (u:=.slice (if c=l.toNat then some ⟨b,o,none⟩ else (some (⟨b,o,none⟩:Addr)).map (·.add (l.toNat*i'.size))) (hb.toNat - l.toNat) (c - l.toNat)) ?_ ?_ h
        ·simp [Instr.sliceAt,Instr.slice,run_underlying hu,hr,sizeOf,typeInfo,hie]
        ·by_cases hz:hb.toNat - l.toNat=0
         ·rw [hz];exact .p _ _ (.sl0 ..)
         ·rw [if_neg (by omega)]
          simp only [Option.map_some,addr_add,hsz',h3]
          refine .p _ _ (.sl _ _ _ b (o+l.toNat*sz) _ (fun i j=>uu (i+l.toNat) j) hI ⟨by have:=hcap.1;omega,by have:=hcap.2;omega⟩ (fun i hi j hj=>?_) (fun i hi j hj=>hv (i+l.toNat) (by omega) j hj))
          have:=hc (i+l.toNat) (by omega) j hj
          rw [Nat.add_mul] at this
          rw [← this]
          congr 2
          omega
     | _=>exact h.elim
    | slr r ver off n N sz cap hL hn =>
     simp only at h
     cases hi with
     | some _=>exact h.elim
     | none =>
      simp only at h
      cases hl:bnd 0 lo with
      | none=>rw [hl] at h;exact h.elim
      | some l =>
       rw [hl] at h
       simp only at h
       cases hn':nth K r with
       | none=>rw [hn'] at h;exact h.elim
       | some b =>
        rw [hn'] at h
        have hb:=hS.blk r
        rw [hp_nth hn'] at hb
        cases b with
        | arr et sz' ver' n' f =>
         simp only at h
         obtain⟨⟨rfl,hnn,h0,h1,h3⟩,h⟩:=h
         rcases hb with ⟨hb,_⟩|⟨cap',c,hl',hcap,hmax,h2,h4,h5⟩
         ·rw [hL] at hb;simp at hb
         rw [hL] at hl'
         injection hl' with _ e2 e3 e4
         subst e2 e3 e4
         have hr:=sliceBounds_run (P:=P) (w:=w) (m:=m) true n (cap - off) (by omega) hlo hhi hl (h:=(n:Int)) rfl h0 h1 (by omega)
         have hrun:(Instr.sliceAt t (.slice (some ⟨m.ρ r,off*sz,none⟩) n (cap - off)) lo' hi' none).run P w =
           .ok (.slice (if cap - off=l.toNat then some ⟨m.ρ r,off*sz,none⟩ else some ⟨m.ρ r,off*sz+l.toNat*sz,none⟩) (n - l.toNat) (cap - off - l.toNat)) w:=by
          simp [Instr.sliceAt,Instr.slice,run_underlying hu,hr,sizeOf,typeInfo,hie,hsz',h3,addr_add]
         refine RunOk.same hS hrun ?_ h
         by_cases hlt:cap - off=l.toNat
         ·rw [if_pos hlt,show n - l.toNat=0 by omega,show cap - off - l.toNat=0 by omega,show off+l.toNat=N by omega]
          exact .slrEnd r ver N sz cap _ hL
         ·rw [if_neg hlt,show cap - off - l.toNat=cap - (off+l.toNat) by omega,← Nat.add_mul]
          exact .slr r ver _ _ N sz cap hL (by omega)
        | _=>exact h.elim
    | slrNil r ver a hL =>
     simp only at h
     cases hi with
     | some _=>exact h.elim
     | none =>
      simp only at h
      cases hl:bnd 0 lo with
      | none=>rw [hl] at h;exact h.elim
      | some l =>
       rw [hl] at h
       simp only at h
       cases hn':nth K r with
       | none=>rw [hn'] at h;exact h.elim
       | some b =>
        rw [hn'] at h
        cases b with
        | arr et sz' ver' n' f =>
         simp only at h
         obtain⟨⟨rfl,hnn,h0,h1,h3⟩,h⟩:=h
         obtain rfl:l=0:=by omega
         have hr:=sliceBounds_run (P:=P) (w:=w) (m:=m) true 0 0 (Nat.le_refl _) hlo hhi hl (h:=0) rfl (Int.le_refl _) (Int.le_refl _) (Int.le_refl _)
         cases a with
         | none =>
          refine RunOk.same hS (u:=.slice none 0 0) ?_ (.slrNil r ver _ hL) h
          simp [Instr.sliceAt,Instr.slice,run_underlying hu,hr,sizeOf,typeInfo,hie]
         | some ad =>
          refine RunOk.same hS (u:=.slice (some ad) 0 0) ?_ (.slrNil r ver _ hL) h
          simp [Instr.sliceAt,Instr.slice,run_underlying hu,hr,sizeOf,typeInfo,hie]
        | _=>exact h.elim
    | slrEnd r ver N sz cap a hL =>
     simp only at h
     cases hi with
     | some _=>exact h.elim
     | none =>
      simp only at h
      cases hl:bnd 0 lo with
      | none=>rw [hl] at h;exact h.elim
      | some l =>
       rw [hl] at h
       simp only at h
       cases hn':nth K r with
       | none=>rw [hn'] at h;exact h.elim
       | some b =>
        rw [hn'] at h
        cases b with
        | arr et sz' ver' n' f =>
         simp only at h
         obtain⟨⟨rfl,hnn,h0,h1,h3⟩,h⟩:=h
         obtain rfl:l=0:=by omega
         have hr:=sliceBounds_run (P:=P) (w:=w) (m:=m) true 0 0 (Nat.le_refl _) hlo hhi hl (h:=0) rfl (Int.le_refl _) (Int.le_refl _) (Int.le_refl _)
         cases a with
         | none =>
          refine RunOk.same hS (u:=.slice none 0 0) ?_ (.slrEnd r ver N sz cap _ hL) h
          simp [Instr.sliceAt,Instr.slice,run_underlying hu,hr,sizeOf,typeInfo,hie]
         | some ad =>
          refine RunOk.same hS (u:=.slice (some ad) 0 0) ?_ (.slrEnd r ver N sz cap _ hL) h
          simp [Instr.sliceAt,Instr.slice,run_underlying hu,hr,sizeOf,typeInfo,hie]
        | _=>exact h.elim
    | slrOld r ver off n ad' c' hold =>
     exfalso
     simp only at h
     cases hi with
     | some _=>exact h.elim
     | none =>
      simp only at h
      cases hl:bnd 0 lo with
      | none=>rw [hl] at h;exact h.elim
      | some l =>
       rw [hl] at h
       simp only at h
       cases hn':nth K r with
       | none=>rw [hn'] at h;exact h.elim
       | some b =>
        rw [hn'] at h
        have hb:=hS.blk r
        rw [hp_nth hn'] at hb
        cases b with
        | arr et sz' ver' n' f =>
         simp only at h
         obtain⟨⟨rfl,rfl,_⟩,h⟩:=h
         rcases hb with ⟨hl',_⟩|⟨cap',c,hl',_⟩
         ·rw [hl'] at hold;simp [Inf.old] at hold
         rw [hl'] at hold
         simp [Inf.old] at hold
        | _=>exact h.elim
    | _=>exact h.elim
  | _=>rw [hU] at h;exact h.elim
theorem opFieldAddr_ok (hT:TabOk P T) (hS:St w m (hp K)) {t:TypeId} {x:AV} {u:Value} (hx:V w m x u) {fi:Nat} (h:opFieldAddr T K k t x fi):RunOk P w m (Instr.fieldAt t u fi) k:=by
 unfold opFieldAddr at h
 cases hg:T.t.get t with
 | none=>rw [hg] at h;exact h.elim
 | some ti =>
  rw [hg] at h
  simp only at h
  obtain⟨i,d,z,hi0,hu,hsz,_,hut,_⟩:=hT.t t ti hg
  cases hU:ti.u with
  | struct fs =>
   rw [hU] at h hut
   simp only at h
   obtain⟨fields,rfl,hfs,hinf⟩:=hut
   cases hn:nth fs fi with
   | none=>rw [hn] at h;exact h.elim
   | some o =>
    obtain⟨fo,ft⟩:=o
    rw [hn] at h
    simp only at h
    cases hg':T.t.get ft with
    | none=>rw [hg'] at h;exact h.elim
    | some fti =>
     rw [hg'] at h
     simp only at h
     obtain⟨i',d',z',hi',hu',hsz',_⟩:=hT.t ft fti hg'
     split at h
     ·exact h.elim
     rename_i hne
     have hne':fti.size≠0:=by intro e;rw [e] at hne;simp at hne
     rw [nth_eq,← hfs] at hn
     simp only [List.getElem?_map,Array.getElem?_toList] at hn
     cases hff:fields[fi]? with
     | none=>rw [hff] at hn;simp at hn
     | some f =>
      rw [hff] at hn
      simp only [Option.map_some,Option.some.injEq,Prod.mk.injEq] at hn
      obtain⟨ho,hft⟩:=hn
      have hrun:∀ a:Addr,(Instr.fieldAt t (.pointer (some a)) fi).run P w=.ok (.pointer (some (a.add fo))) w:=by
       intro a
       simp [Instr.fieldAt,run_underlying hu,hff,Instr.sureAddr,fieldPlace,sizeOf,typeInfo,hft,hi',hsz',hne',ho]
      cases hx with
      | ptr r ver n i off sz cap hL hi =>
       refine RunOk.same hS (hrun _) ?_ h
       rw [addr_add,Nat.add_assoc]
       exact .ptr r ver n i (off+fo) sz cap hL hi
      | rop cs off b o uu hI hc hv =>
       refine RunOk.same hS (hrun _) ?_ h
       rw [addr_add,Nat.add_assoc]
       exact .rop cs (off+fo) b o uu hI hc hv
      | ptrOld r ver n i off b o hold =>
       refine RunOk.same hS (hrun _) ?_ h
       rw [addr_add]
       exact .ptrOld r ver n i (off+fo) b _ hold
      | _=>exact h.elim
  | _=>rw [hU] at h;exact h.elim
end
end Go.AE
namespace Go.AE
section
variable {P:Program} {T:Tab} {w:World} {m:Mp} {K:List ABlk} {k:AV→List ABlk→Prop}
theorem part_val {t:Nat} {ti:TI} (hti:TIok P t ti) {cs:List AV} {A:Array Value} (hc:VL w m cs A) (off:Nat) (q:AV→Prop) (h:part ti cs off q) :
  ∃ u a,(Go.part t A off).run P w=.ok u w∧V w m a u∧q a:=by
 obtain⟨i,d,z,hi,hu,hsz,_,_,_,_,hagg,_⟩:=hti
 unfold part at h
 unfold Go.part
 simp only [Sem.run_bind,isAgg_run hu,Result.andThen_ok]
 rw [← hagg]
 have hl:=hc.1
 cases hA:ti.agg with
 | true =>
  rw [hA] at h
  simp only at h
  cases hb:Nat.ble (off+ti.size) (len cs) with
  | false=>rw [hb] at h;exact h.elim
  | true =>
   rw [hb] at h
   simp only [fVL_eq,takeN_eq,dropN_eq] at h
   have hle:off+ti.size≤cs.length:=by rw [len_eq] at hb;exact Nat.le_of_ble_eq_true hb
   refine⟨.agg (A.extract off (off+ti.size)),.agg ((cs.drop off).take ti.size),?_,?_,h⟩
   ·simp [sizeOf,typeInfo,hi,hsz]
   ·refine .agg _ _ (by simp;omega) fun j hj hj'=>?_
    have hj2:j<ti.size:=by simp at hj;omega
    have:=hc.2 (off+j) (by omega) (by omega)
    simpa using this
 | false =>
  rw [hA] at h
  simp only at h
  rw [nth_eq] at h
  cases hn:cs[off]? with
  | none=>rw [hn] at h;exact h.elim
  | some v =>
   rw [hn] at h
   simp only [fV_eq] at h
   obtain⟨hlt,rfl⟩:=List.getElem?_eq_some_iff.1 hn
   obtain⟨u,h1,h2⟩:=hc.get? off hlt
   refine⟨u,_,?_,h2,h⟩
   simp [h1]
theorem opField_ok (hT:TabOk P T) (hS:St w m (hp K)) {t:TypeId} {x:AV} {u:Value} (hx:V w m x u) {fi:Nat} (h:opField T K k t x fi):RunOk P w m (Instr.field t u fi) k:=by
 unfold opField at h
 cases hg:T.t.get t with
 | none=>rw [hg] at h;exact h.elim
 | some ti =>
  rw [hg] at h
  simp only at h
  obtain⟨i,d,z,hi0,hu,hsz,_,hut,_⟩:=hT.t t ti hg
  cases hU:ti.u with
  | struct fs =>
   rw [hU] at h hut
   simp only at h
   obtain⟨fields,rfl,hfs,hinf⟩:=hut
   cases hn:nth fs fi with
   | none=>rw [hn] at h;exact h.elim
   | some o =>
    obtain⟨fo,ft⟩:=o
    rw [hn] at h
    simp only at h
    cases hg':T.t.get ft with
    | none=>rw [hg'] at h;exact h.elim
    | some fti =>
     rw [hg'] at h
     simp only at h
     rw [nth_eq,← hfs] at hn
     simp only [List.getElem?_map,Array.getElem?_toList] at hn
     cases hff:fields[fi]? with
     | none=>rw [hff] at hn;simp at hn
     | some f =>
      rw [hff] at hn
      simp only [Option.map_some,Option.some.injEq,Prod.mk.injEq] at hn
      obtain⟨ho,hft⟩:=hn
      cases hx with
      | agg cs A hA hv =>
       obtain⟨u,a,h1,h2,h3⟩:=part_val (P:=P) (hT.t ft fti hg') ⟨hA,hv⟩ fo _ h
       refine RunOk.same hS (u:=u) ?_ h2 h3
       simp [Instr.field,run_underlying hu,hff,asAgg,hft,ho,h1]
      | _=>exact h.elim
  | _=>rw [hU] at h;exact h.elim
theorem opIndexAddr_ok (hT:TabOk P T) (hS:St w m (hp K)) {t:TypeId} {x y:AV} {u v:Value} (hx:V w m x u) (hy:V w m y v) (h:opIndexAddr T K k t x y):RunOk P w m (Instr.indexAt t u v) k:=by
 unfold opIndexAddr at h
 cases hg:T.t.get t with
 | none=>rw [hg] at h;exact h.elim
 | some ti =>
  rw [hg] at h
  simp only at h
  obtain⟨i,d,z,hi0,hu,hsz,_,hut,_⟩:=hT.t t ti hg
  cases hU:ti.u with
  | slice e =>
   rw [hU] at h hut
   simp only [utOk] at hut
   subst hut
   simp only at h
   cases hge:T.t.get e with
   | none=>rw [hge] at h;exact h.elim
   | some ei =>
    rw [hge] at h
    simp only at h
    obtain⟨i',d',z',hie,hu',hsz',_⟩:=hT.t e ei hge
    cases hy with
    | p y v hy =>
     cases hy with
     | int q ix =>
      simp only at h
      cases hx with
      | p x u hx =>
       cases hx with
       | sl sz n f b o c uu hI hcap hc hv =>
        simp only at h
        obtain⟨⟨h0,h1,h2⟩,h⟩:=h
        simp only [fL_eq] at h
        refine RunOk.same hS (u:=.pointer (some ⟨b,o+ix.toNat*sz,none⟩)) ?_ ?_ h
        ·simp [Instr.indexAt,asIntOf,run_underlying hu,h0,h1,sizeOf,typeInfo,hie,hsz',h2,addr_add]
        ·refine .rop (f ix.toNat) 0 b (o+ix.toNat*sz) (uu ix.toNat) hI (fun j hj=>?_) (fun j hj=>hv ix.toNat (by omega) j hj)
         have:=hc ix.toNat (by omega) j hj
         rw [← this,Nat.add_assoc]
       | sl0 =>
        simp only at h
        obtain⟨⟨h0,h1,h2⟩,h⟩:=h
        omega
       | _=>exact h.elim
      | slr r ver off n N sz cap hL hn =>
       simp only at h
       cases hn':nth K r with
       | none=>rw [hn'] at h;exact h.elim
       | some b =>
        rw [hn'] at h
        have hb:=hS.blk r
        rw [hp_nth hn'] at hb
        cases b with
        | arr et sz' ver' n' f =>
         simp only at h
         obtain⟨⟨rfl,hnn,h0,h1,h3⟩,h⟩:=h
         rcases hb with ⟨hb,_⟩|⟨cap',c,hl',hcap,hmax,h2,h4,h5⟩
         ·rw [hL] at hb;simp at hb
         rw [hL] at hl'
         injection hl' with _ e2 e3 e4
         subst e2 e3 e4
         refine RunOk.same hS (u:=.pointer (some ⟨m.ρ r,(off+ix.toNat)*sz+0,none⟩)) ?_ (.ptr r ver N (off+ix.toNat) 0 sz cap hL (by omega)) h
         simp [Instr.indexAt,asIntOf,run_underlying hu,h0,h1,sizeOf,typeInfo,hie,hsz',h3,addr_add,Nat.add_mul]
        | _=>exact h.elim
      | slrNil r ver a hL =>
       exfalso
       simp only at h
       cases hn':nth K r with
       | none=>rw [hn'] at h;exact h.elim
       | some b =>
        rw [hn'] at h
        cases b with
        | arr et sz' ver' n' f =>
         obtain⟨⟨_,_,h0,h1,_⟩,h⟩:=h
         omega
        | _=>exact h.elim
      | slrEnd r ver N sz cap a hL =>
       exfalso
       simp only at h
       cases hn':nth K r with
       | none=>rw [hn'] at h;exact h.elim
       | some b =>
        rw [hn'] at h
        cases b with
        | arr et sz' ver' n' f =>
         obtain⟨⟨_,_,h0,h1,_⟩,h⟩:=h
         omega
        | _=>exact h.elim
      | slrOld r ver off n ad' c' hold =>
       exfalso
       simp only at h
       cases hn':nth K r with
       | none=>rw [hn'] at h;exact h.elim
       | some b =>
        rw [hn'] at h
        have hb:=hS.blk r
        rw [hp_nth hn'] at hb
        cases b with
        | arr et sz' ver' n' f =>
         simp only at h
         obtain⟨⟨rfl,rfl,_⟩,h⟩:=h
         rcases hb with ⟨hl',_⟩|⟨cap',c,hl',_⟩
         ·rw [hl'] at hold;simp [Inf.old] at hold
         rw [hl'] at hold
         simp [Inf.old] at hold
        | _=>exact h.elim
      | _=>exact h.elim
     | _=>exact h.elim
    | _=>exact h.elim
  | array len e =>
   rw [hU] at h hut
   simp only [utOk] at hut
   subst hut
   simp only at h
   cases hge:T.t.get e with
   | none=>rw [hge] at h;exact h.elim
   | some ei =>
    rw [hge] at h
    simp only at h
    obtain⟨i',d',z',hie,hu',hsz',_⟩:=hT.t e ei hge
    cases hb:Nat.beq ei.size 1 with
    | false=>rw [hb] at h;exact h.elim
    | true =>
     rw [hb] at h
     have h1:=Nat.eq_of_beq_eq_true hb
     cases hy with
     | p y v hy =>
      cases hy with
      | int q ix =>
       simp only at h
       have hrun:∀ a:Addr,0≤ix→ix<(len:Int)→(Instr.indexAt t (.pointer (some a)) (.int q ix)).run P w=.ok (.pointer (some (a.add ix.toNat))) w:=by
        intro a h2 h3
        simp [Instr.indexAt,asIntOf,Instr.sureAddr,run_underlying hu,h2,h3,sizeOf,typeInfo,hie,hsz',h1]
       cases hx with
       | ptr r ver n j off sz cap hL hj =>
        cases off with
        | zero =>
         obtain⟨⟨h2,h3⟩,h⟩:=h
         refine RunOk.same hS (hrun _ h2 h3) ?_ h
         rw [addr_add]
         exact .ptr r ver n j ix.toNat sz cap hL hj
        | succ _=>exact h.elim
       | ptrOld r ver n j off b o hold =>
        cases off with
        | zero =>
         obtain⟨⟨h2,h3⟩,h⟩:=h
         refine RunOk.same hS (hrun _ h2 h3) ?_ h
         rw [addr_add]
         exact .ptrOld r ver n j ix.toNat b _ hold
        | succ _=>exact h.elim
       | rop cs off b o uu hI hc hv =>
        cases off with
        | zero =>
         obtain⟨⟨h2,h3⟩,h⟩:=h
         refine RunOk.same hS (hrun _ h2 h3) ?_ h
         rw [addr_add]
         exact .rop cs ix.toNat b o uu hI hc hv
        | succ _=>exact h.elim
       | _=>exact h.elim
      | _=>exact h.elim
     | _=>exact h.elim
  | _=>rw [hU] at h;exact h.elim
theorem opIndex_ok (hT:TabOk P T) (hS:St w m (hp K)) {t:TypeId} {x y:AV} {u v:Value} (hx:V w m x u) (hy:V w m y v) (h:opIndex T K k t x y):RunOk P w m (Instr.index t u v) k:=by
 unfold opIndex at h
 cases hg:T.t.get t with
 | none=>rw [hg] at h;exact h.elim
 | some ti =>
  rw [hg] at h
  simp only at h
  obtain⟨i,d,z,hi0,hu,hsz,_,hut,_⟩:=hT.t t ti hg
  cases hy with
  | p y v hy =>
   cases hy with
   | int q ix =>
    simp only at h
    cases hU:ti.u with
    | string =>
     rw [hU] at h hut
     simp only [utOk] at hut
     subst hut
     simp only at h
     cases hx with
     | p x u hx =>
      cases hx with
      | str s l hl =>
       subst hl
       obtain⟨⟨h0,h1⟩,h⟩:=h
       simp only [Array.length_toList] at h1
       have hlt:ix.toNat<s.size:=by have:s.data.size=s.size:=rfl;omega
       refine RunOk.same hS (u:=.int .u8 (byteAt s.data.toList ix.toNat)) ?_ (kInt ..) h
       have e:s[ix.toNat]?=some (s[ix.toNat]'hlt):=getElem?_pos s ix.toNat hlt
       have e2:s.data.toList.getD ix.toNat 0=s[ix.toNat]'hlt:=by
        rw [List.getD_eq_getElem?_getD,List.getElem?_eq_getElem (by simpa using hlt)]
        simp only [Option.getD_some,Array.getElem_toList]
        rfl
       simp only [Instr.index,asIntOf,Sem.run_bind,Sem.run_pure,Result.andThen_ok,run_underlying hu,h0,if_true,e,byteAt,e2]
      | _=>exact h.elim
     | _=>exact h.elim
    | array len e =>
     rw [hU] at h hut
     simp only [utOk] at hut
     subst hut
     simp only at h
     cases hge:T.t.get e with
     | none=>rw [hge] at h;exact h.elim
     | some ei =>
      rw [hge] at h
      simp only at h
      obtain⟨i',d',z',hie,hu',hsz',_⟩:=hT.t e ei hge
      cases hb:Nat.beq ei.size 1 with
      | false=>rw [hb] at h;exact h.elim
      | true =>
       rw [hb] at h
       have h1:=Nat.eq_of_beq_eq_true hb
       simp only at h
       cases hx with
       | agg cs A hA hv =>
        obtain⟨⟨h2,h3⟩,h⟩:=h
        obtain⟨u,a,h4,h5,h6⟩:=part_val (P:=P) (hT.t e ei hge) ⟨hA,hv⟩ ix.toNat _ h
        refine RunOk.same hS (u:=u) ?_ h5 h6
        simp [Instr.index,asIntOf,run_underlying hu,h2,h3,sizeOf,typeInfo,hie,hsz',h1,h4]
       | _=>exact h.elim
    | _=>rw [hU] at h;exact h.elim
   | _=>exact h.elim
  | _=>exact h.elim
theorem opExtract_ok (hS:St w m (hp K)) {x:AV} {u:Value} (hx:V w m x u) {i:Nat} (h:opExtract K k x i):RunOk P w m (Instr.extract u i) k:=by
 cases hx with
 | tup cs A hA hv =>
  simp only [opExtract,nth_eq] at h
  cases hn:cs[i]? with
  | none=>rw [hn] at h;exact h.elim
  | some v =>
   rw [hn] at h
   simp only [fV_eq] at h
   obtain⟨hlt,rfl⟩:=List.getElem?_eq_some_iff.1 hn
   obtain⟨u,h1,h2⟩:=VL.get? ⟨hA,hv⟩ i hlt
   exact RunOk.same hS (u:=u) (by simp [Instr.extract,h1]) h2 h
 | _=>exact h.elim
def NewsOk (w:World) (m:Mp) (sz:Nat) (u:Value) (n:Nat) (g:Nat→List AV):Prop :=
 ∃ (a:Option Addr) (c:Nat) (nl:List Value),u=.slice a n c∧nl.length=n*sz∧(∀ j y,nl[j]?=some y→∃ ad,a=some ad∧w.cell? (ad.add j)=some y)∧(∀ y∈nl,y.oneCell'=true) ∧
  ∀ i,i<n→(g i).length=sz∧∀ j (hj:j<(g i).length),∃ y,nl[i*sz+j]?=some y∧V w m (g i)[j] y
theorem NewsOk.mk' {sz:Nat} (hsz:0<sz) (b o n c:Nat) (g:Nat→List AV)
  (h:∀ i,i<n→(g i).length=sz∧∀ j (hj:j<(g i).length),∃ y,w.cell? ⟨b,o+(i*sz+j),none⟩=some y∧V w m (g i)[j] y∧y.oneCell'=true):NewsOk w m sz (.slice (some ⟨b,o,none⟩) n c) n g:=by
 have key:∀ q,q<n*sz→∃ y,w.cell? ⟨b,o+q,none⟩=some y∧y.oneCell'=true:=by
  intro q hq
  have h1:q / sz<n:=(Nat.div_lt_iff_lt_mul hsz).2 hq
  have h2:q % sz<sz:=Nat.mod_lt _ hsz
  obtain⟨y,hy1,_,hy3⟩:=(h (q / sz) h1).2 (q % sz) (by rw [(h _ h1).1];exact h2)
  refine⟨y,?_,hy3⟩
  rw [← hy1]
  congr 2
  have:=Nat.div_add_mod q sz
  rw [Nat.mul_comm] at this
  omega
 refine⟨_,c,(List.range (n*sz)).map fun q=>(w.cell? ⟨b,o+q,none⟩).getD undef,rfl,by simp,fun j y hy=>?_,fun y hy=>?_,fun i hi=>⟨(h i hi).1,fun j hj=>?_⟩⟩
 ·have hj:j<n*sz:=by have:=(List.getElem?_eq_some_iff.1 hy).1;simpa using this
  obtain⟨y',h1,_⟩:=key j hj
  simp [hj,h1] at hy
  subst hy
  exact⟨_,rfl,by rw [addr_add];exact h1⟩
 ·simp only [List.mem_map,List.mem_range] at hy
  obtain⟨q,hq,rfl⟩:=hy
  obtain⟨y',h1,h2⟩:=key q hq
  simpa [h1] using h2
 ·have hroom:(i+1)*sz≤n*sz:=Nat.mul_le_mul_right _ (by omega)
  rw [Nat.add_mul,Nat.one_mul] at hroom
  obtain⟨y,hy1,hy2,_⟩:=(h i hi).2 j hj
  rw [(h i hi).1] at hj
  exact⟨y,by simp [show i*sz+j<n*sz by omega,hy1],hy2⟩
theorem news_ok (hS:St w m (hp K)) {sz:Nat} (hsz:0<sz) {x:AV} {u:Value} (hx:V w m x u) {q:Nat→(Nat→List AV)→Prop} (h:news K sz x q):∃ n g,NewsOk w m sz u n g∧q n g:=by
 unfold news at h
 cases hx with
 | p x u hx =>
  cases hx with
  | nils=>exact⟨0,_,⟨none,0,[],rfl,by simp,by simp,by simp,fun i hi=>by omega⟩,h⟩
  | sl0 sz' f a c=>exact⟨0,_,⟨a,c,[],rfl,by simp,by simp,by simp,fun i hi=>by omega⟩,h.k⟩
  | sl sz' n f b o c uu hI hcap hc hv =>
   obtain⟨⟨rfl,hl⟩,h⟩:=h
   refine⟨n,_,NewsOk.mk' hsz b o n c _ (fun i hi=>⟨by rw [pvs_len];exact hl i hi,fun j hj=>?_⟩),h⟩
   have hj':j<(f i).length:=by rw [pvs_len] at hj;exact hj
   exact⟨uu i j,hc i hi j hj',by rw [pvs_get];exact .p _ _ (hv i hi j hj'),(hv i hi j hj').one⟩
  | _=>exact h.elim
 | slr r ver off n N sz' cap hL hn =>
  simp only at h
  cases hn':nth K r with
  | none=>rw [hn'] at h;exact h.elim
  | some b =>
   rw [hn'] at h
   have hb:=hS.blk r
   rw [hp_nth hn'] at hb
   cases b with
   | arr et sz2 ver' n' f =>
    simp only at h
    obtain⟨⟨rfl,hnn,rfl,hones⟩,h⟩:=h
    rcases hb with ⟨hb,_⟩|⟨cap',c,hl',hcap,hmax,h2,h4,h5⟩
    ·rw [hL] at hb;simp at hb
    rw [hL] at hl'
    injection hl' with _ e2 e3 e4
    subst e2 e3 e4
    refine⟨n,_,NewsOk.mk' hsz (m.ρ r) (off*sz') n _ _ (fun i hi=>⟨(h5 (i+off) (by omega)).1,fun j hj=>?_⟩),h⟩
    obtain⟨y,hy1,hy2⟩:=(h5 (i+off) (by omega)).2 j hj
    refine⟨y,?_,hy2,hy2.one (ones_get (hones _ (by omega)) j hj)⟩
    rw [cell_of_row w _ _ c et (0,0) h2,← hy1,Nat.add_mul]
    congr 1
    omega
   | _=>exact h.elim
 | slrNil r ver a hL =>
  simp only at h
  cases hn':nth K r with
  | none=>rw [hn'] at h;exact h.elim
  | some b =>
   rw [hn'] at h
   cases b with
   | arr et sz' ver' n' f=>exact⟨0,_,⟨a,0,[],rfl,by simp,by simp,by simp,fun i hi=>by omega⟩,h.k⟩
   | _=>exact h.elim
 | slrEnd r ver N sz cap a hL =>
  simp only at h
  cases hn':nth K r with
  | none=>rw [hn'] at h;exact h.elim
  | some b =>
   rw [hn'] at h
   cases b with
   | arr et sz' ver' n' f=>exact⟨0,_,⟨a,0,[],rfl,by simp,by simp,by simp,fun i hi=>by omega⟩,h.k⟩
   | _=>exact h.elim
 | slrOld r ver off n ad' c' hold =>
  exfalso
  simp only at h
  cases hn':nth K r with
  | none=>rw [hn'] at h;exact h.elim
  | some b =>
   rw [hn'] at h
   have hb:=hS.blk r
   rw [hp_nth hn'] at hb
   cases b with
   | arr et sz' ver' n' f =>
    simp only at h
    obtain⟨⟨rfl,rfl,_⟩,h⟩:=h
    rcases hb with ⟨hl',_⟩|⟨cap',c,hl',_⟩
    ·rw [hl'] at hold;simp [Inf.old] at hold
    rw [hl'] at hold
    simp [Inf.old] at hold
   | _=>exact h.elim
 | _=>exact h.elim
theorem append_none {t tx ty e:TypeId} {i:TypeInfo} (ht:P.underlying t=some (.slice e)) (hi:P.info? e=some i) (base:Option Addr) (sLen sCap:Nat) (hle:sLen≤sCap) {e':TypeId} (htx:P.underlying tx=some (.slice e')) (a:Option Addr) (c:Nat) :
  (Builtin.append_ #[t,tx] ty #[.slice base sLen sCap,.slice a 0 c]).run P w=.ok (.slice base sLen sCap) w:=by
 cases base<;>cases a<;>simp [Builtin.append_,run_underlying ht,run_underlying htx,sizeOf,typeInfo,hi,Builtin.lenOf,hle,Builtin.firstCells,loadCells,loadCellsFrom,storeCells]
theorem catF_lt {n:Nat} {f g:Nat→List AV} {i:Nat} (h:i<n):catF n f g i=f i:=by
 unfold catF
 have:Nat.blt i n=true:=by simpa using h
 rw [this]
theorem catF_ge {n:Nat} {f g:Nat→List AV} {i:Nat} (h:n≤i):catF n f g i=g (i - n):=by
 unfold catF
 have:Nat.blt i n=false:=by cases e:Nat.blt i n with
  | true=>have:=Nat.le_of_ble_eq_true e;omega
  | false=>rfl
 rw [this]
theorem frozen_no {w:World} {b o:Nat} {c:Array Value} {ty:TypeId} (h:w.heap[b]?=some (.cells c ty (0,0))):w.frozen? ⟨b,o,none⟩=false:=by
 simp [World.frozen?,h]
theorem cat_cells {w w':World} {m m':Mp} (hV:∀ a u,V w m a u→V w' m' a u) {sz n nm:Nat} {f g:Nat→List AV} {xs nl:List Value} {cur:Array Value} (hx:xs.length=n*sz)
  (hf:∀ i,i<n→(f i).length=sz∧∀ j (hj:j<(f i).length),∃ u,xs[i*sz+j]?=some u∧V w m (f i)[j] u)
  (hg:∀ i,i<nm→(g i).length=sz∧∀ j (hj:j<(g i).length),∃ y,nl[i*sz+j]?=some y∧V w m (g i)[j] y)
  (htake:cur.toList.take ((n+nm)*sz)=xs++nl):∀ q,q<n+nm→(catF n f g q).length=sz∧∀ j (hj:j<(catF n f g q).length),∃ u,cur[q*sz+j]?=some u∧V w' m' (catF n f g q)[j] u:=by
 intro q hq
 have hroom:(q+1)*sz≤(n+nm)*sz:=Nat.mul_le_mul_right _ (by omega)
 rw [Nat.add_mul,Nat.one_mul] at hroom
 have hcell:∀ j y,j<sz→(xs++nl)[q*sz+j]?=some y→cur[q*sz+j]?=some y:=by
  intro j y hj hy
  rw [← htake,List.getElem?_take,if_pos (by omega)] at hy
  simpa using hy
 by_cases hqn:q<n
 ·have hroom2:(q+1)*sz≤n*sz:=Nat.mul_le_mul_right _ (by omega)
  rw [Nat.add_mul,Nat.one_mul] at hroom2
  rw [catF_lt hqn]
  refine⟨(hf q hqn).1,fun j hj=>?_⟩
  have hj':j<sz:=by rw [(hf q hqn).1] at hj;exact hj
  obtain⟨y,hy1,hy2⟩:=(hf q hqn).2 j hj
  refine⟨y,hcell j y hj' ?_,hV _ _ hy2⟩
  rw [List.getElem?_append_left (by omega)]
  exact hy1
 ·rw [catF_ge (by omega)]
  have hg':=hg (q - n) (by omega)
  refine⟨hg'.1,fun j hj=>?_⟩
  have hj':j<sz:=by rw [hg'.1] at hj;exact hj
  obtain⟨y,hy1,hy2⟩:=hg'.2 j hj
  refine⟨y,hcell j y hj' ?_,hV _ _ hy2⟩
  have hmul:q*sz=n*sz+(q - n)*sz:=by rw [← Nat.add_mul];congr 1;omega
  rw [List.getElem?_append_right (by omega),hx,show q*sz+j - n*sz=(q - n)*sz+j by omega]
  exact hy1
theorem appOff_ok {t e ty:TypeId} {ei:TI} {i':TypeInfo} {z':Value} (hu:P.underlying t=some (.slice e)) (hie:P.info? e=some i') (hz':i'.zero=some z') (hsz':i'.size=ei.size) (hby':i'.bytes=ei.bytes) (hzs:z'.cells.size=ei.size) (hne:ei.size≠0)
  (hS:St w m (hp K)) {r ver off n N sz cap nm:Nat} (hL:m.L r=.live ver N sz cap) (hn:off+n=N) {v:Value} {g:Nat→List AV} (hnews:NewsOk w m ei.size v nm g) (h:appOff K k e ei r ver off n nm g) :
  RunOk P w m (Builtin.append_ #[t,t] ty #[.slice (some ⟨m.ρ r,off*sz,none⟩) n (cap - off),v]) k:=by
 obtain⟨a,c,nl,rfl,hnl,hcells,hone,hg⟩:=hnews
 unfold appOff at h
 cases hn':nth K r with
 | none=>rw [hn'] at h;exact h.elim
 | some b =>
  rw [hn'] at h
  have hb:=hS.blk r
  rw [hp_nth hn'] at hb
  have hlive:(m.L r).isLive:=by rw [hL];trivial
  cases b with
  | arr et sz2 ver' n' f =>
   simp only at h
   obtain⟨⟨rfl,rfl,rfl,rfl,hby,h63⟩,h⟩:=h
   simp only [fL_eq] at h
   obtain⟨hin,hmv⟩:=h
   rcases hb with ⟨hb,_⟩|⟨cap',cc,hl',hcap,hmax,h2,h4,h5⟩
   ·rw [hL] at hb;simp at hb
   have hl2:=hl'
   rw [hL] at hl2
   injection hl2 with _ e1 e3 e4
   subst e1 e3 e4
   by_cases hm0:nm=0
   ·subst hm0
    refine⟨_,w,m,_,_,append_none hu hie _ _ _ (by omega) hu a c,Tr.refl w m,?_,?_,hin⟩
    ·rw [hp_set K r _ _ hn']
     refine⟨hS.inj,hS.notI,hS.lt,hS.Ilt,hS.gl,fun q=>?_⟩
     by_cases e:q=r
     ·subst e
      simp only [upd,if_true]
      refine .inr ⟨cap,cc,hL,by omega,hmax,h2,h4,fun j hj=>?_⟩
      rw [catF_lt (by omega)]
      exact h5 j (by omega)
     ·simp only [upd,e,if_false];exact hS.blk q
    ·exact V.slr (w:=w) r ver off n (off+n) ei.size cap hL rfl
   ·have hpos:0<nl.length:=by rw [hnl];exact Nat.mul_pos (by omega) (by omega)
    obtain⟨ad,rfl,_⟩:=hcells 0 nl[0] (List.getElem?_eq_getElem hpos)
    have hnews:∀ j y,nl[j]?=some y→w.cell? (ad.add j)=some y:=fun j y hy=>by obtain⟨_,e1,e2⟩:=hcells j y hy;injection e1 with e1;rw [e1];exact e2
    have hnc:(off+n)*ei.size≤cap*ei.size:=Nat.mul_le_mul_right _ hcap
    have hmul:(off+n)*ei.size=off*ei.size+n*ei.size:=Nat.add_mul ..
    by_cases hroom:off+n+nm≤cap
    ·have hnc2:(off+n+nm)*ei.size≤cap*ei.size:=Nat.mul_le_mul_right _ hroom
     rw [Nat.add_mul] at hnc2
     have hown0:w.ownsRow 0 et ei.size (.slice (some ⟨m.ρ r,0,none⟩) (off+n) cap) (off+n) (cc.toList.take ((off+n)*ei.size)) :=
      ⟨by simp;omega,.inr ⟨m.ρ r,cap,cc,rfl,Nat.zero_le _,h2,hcap,hmax,h4,rfl⟩⟩
     obtain⟨v',w',hr,hown,hgrow,hnil,hat⟩:=run_append_own_at (P:=P) w 0 t ty et i' z' ei.size ei.bytes hu hie hz' hsz' hby' hzs (by omega) _ (off+n) _ hown0
      ad nm c nl hnl hnews hone (by simp only [maxLen];omega) (by omega) (Nat.zero_le _)
     have hcs:∀ j,j<nl.length→(w.cell? ⟨m.ρ r,(off+n)*ei.size+j,none⟩).isSome=true:=fun j hj=>by
      rw [hnl] at hj
      simp [World.cell?,h2]
      omega
     have hr1:=run_append_room_cells (P:=P) w t ty et i' hu hie (m.ρ r) 0 (off+n) cap ad nm c nl (by rw [hsz'];exact hnl) hnews hone hroom (fun j hj=>by rw [Nat.zero_add,hsz'];exact hcs j hj) (fun j hj=>frozen_no h2)
     rw [Nat.zero_add,hsz',hr] at hr1
     injection hr1 with e1 e2
     subst e1 e2
     have hr2:=run_append_room_cells (P:=P) w t ty et i' hu hie (m.ρ r) (off*ei.size) n (cap - off) ad nm c nl (by rw [hsz'];exact hnl) hnews hone (by omega) (fun j hj=>by rw [hsz',← hmul];exact hcs j hj) (fun j hj=>frozen_no h2)
     rw [hsz',← hmul] at hr2
     rcases hown.2 with ⟨h0,_⟩|⟨gb,cap2,cur,e1,_,hgh,hncap,hcapm,hcs,htake⟩
     ·cases h0
     ·injection e1 with e1 e2 e3
      injection e1 with e1
      injection e1 with e1
      subst e1 e3
      have hgr:w.grownBy (w.setCells (m.ρ r) ((off+n)*ei.size) nl) (some (m.ρ r)):=by simpa [Value.ownBlock] using hgrow
      have hstep:(m.L r).step (.live ver (off+n+nm) ei.size cap) (m.ρ r=m.ρ r):=by
       rw [hL]
       exact .inr (.inr ⟨_,_,_,_,rfl,by omega⟩)
      have hlt:m.ρ r<(w.setCells (m.ρ r) ((off+n)*ei.size) nl).heap.size:=(Array.getElem?_eq_some_iff.1 hgh).1
      have hTr:=Tr.grow hS r (m.ρ r) (.live ver (off+n+nm) ei.size cap) hlive hgr hstep (.inl rfl)
      refine⟨_,_,_,_,_,hr2,hTr,?_,?_,hin⟩
      ·rw [hp_set K r _ _ hn']
       refine hS.grow r (m.ρ r) _ hlive hgr hstep (.inl rfl) hlt _ (.inr ⟨cap,cur,rfl,hncap,hcapm,hgh,hcs,?_⟩)
       refine cat_cells (fun _ _ h=>h.mono hTr) (by simp;omega) (fun i hi=>⟨(h5 i hi).1,fun j hj=>?_⟩) hg htake
       obtain⟨y,hy1,hy2⟩:=(h5 i hi).2 j hj
       refine⟨y,?_,hy2⟩
       have hroom2:(i+1)*ei.size≤(off+n)*ei.size:=Nat.mul_le_mul_right _ (by omega)
       rw [Nat.add_mul,Nat.one_mul] at hroom2
       have hj':j<ei.size:=by rw [(h5 i hi).1] at hj;exact hj
       rw [List.getElem?_take,if_pos (by omega)]
       simpa using hy1
      ·have:=V.slr (w:=w.setCells (m.ρ r) ((off+n)*ei.size) nl) (m:=m.set r (m.ρ r) (.live ver (off+n+nm) ei.size cap)) r ver off (n+nm) (off+n+nm) ei.size cap (by simp [Mp.set]) (by omega)
       simpa [Mp.set] using this
    ·have holds:∀ j u,((cc.toList.drop (off*ei.size)).take (n*ei.size))[j]?=some u→w.cell? ((⟨m.ρ r,off*ei.size,none⟩:Addr).add j)=some u:=fun j u hj=>by
      rw [addr_add]
      rw [List.getElem?_take] at hj
      split at hj
      ·rw [List.getElem?_drop] at hj
       simp [World.cell?,h2]
       simpa using hj
      ·cases hj
     obtain⟨v',w',hr,hown,hgrow⟩:=run_append_arg_grows (P:=P) w t ty et i' z' ei.size ei.bytes hu hie hz' hsz' hby' hzs (by omega) ⟨m.ρ r,off*ei.size,none⟩ n (cap - off) ((cc.toList.drop (off*ei.size)).take (n*ei.size)) (by simp;omega) holds
      ad nm c nl hnl hnews (by omega) (by simp only [maxLen];omega) (by
       refine Nat.le_trans (Nat.mul_le_mul_right _ ?_) hby
       omega)
     rcases hown.2 with ⟨_,h0⟩|⟨gb,cap2,cur,rfl,hbase,hgh,hncap,hcapm,hcs,htake⟩
     ·omega
     ·have hgr:w.grownBy w' (some (m.ρ r)):=⟨hgrow.os,hgrow.tape,hgrow.output,hgrow.size,fun b hb _=>hgrow.block b hb (by simp)⟩
      have hstep:(m.L r).step (.live (ver+1) (n+nm) ei.size cap2) (gb=m.ρ r):=by
       rw [hL]
       exact .inr (.inr ⟨_,_,_,_,rfl,by omega⟩)
      have hlt:gb<w'.heap.size:=(Array.getElem?_eq_some_iff.1 hgh).1
      have hTr:=Tr.grow hS r gb (.live (ver+1) (n+nm) ei.size cap2) hlive hgr hstep (.inr hbase)
      refine⟨_,w',_,_,_,hr,hTr,?_,?_,hmv⟩
      ·rw [hp_set K r _ _ hn']
       refine hS.grow r gb _ hlive hgr hstep (.inr hbase) hlt _ (.inr ⟨cap2,cur,rfl,hncap,hcapm,hgh,hcs,?_⟩)
       refine cat_cells (f:=fun i=>f (i+off)) (fun _ _ h=>h.mono hTr) (by simp;omega) (fun i hi=>⟨(h5 _ (by omega)).1,fun j hj=>?_⟩) hg htake
       obtain⟨y,hy1,hy2⟩:=(h5 (i+off) (by omega)).2 j hj
       refine⟨y,?_,hy2⟩
       have hroom2:(i+1)*ei.size≤n*ei.size:=Nat.mul_le_mul_right _ (by omega)
       rw [Nat.add_mul,Nat.one_mul] at hroom2
       have hj':j<ei.size:=by rw [(h5 (i+off) (by omega)).1] at hj;exact hj
       rw [List.getElem?_take,if_pos (by omega),List.getElem?_drop]
       rw [Nat.add_mul] at hy1
       rw [show off*ei.size+(i*ei.size+j)=i*ei.size+off*ei.size+j by omega]
       simpa using hy1
      ·have:=V.slr (w:=w') (m:=m.set r gb (.live (ver+1) (n+nm) ei.size cap2)) r (ver+1) 0 (n+nm) (n+nm) ei.size cap2 (by simp [Mp.set]) (by omega)
       simpa [Mp.set] using this
  | _=>exact h.elim
theorem opAppend_ok (hT:TabOk P T) (hS:St w m (hp K)) {t:TypeId} {s x:AV} {u v:Value} (hs:V w m s u) (hx:V w m x v) {ty:TypeId} (h:opAppend T K k t s x):RunOk P w m (Builtin.append_ #[t,t] ty #[u,v]) k:=by
 unfold opAppend at h
 cases hg:T.t.get t with
 | none=>rw [hg] at h;exact h.elim
 | some ti =>
  rw [hg] at h
  simp only at h
  obtain⟨i,d,z,hi0,hu,hsz,_,hut,_⟩:=hT.t t ti hg
  cases hU:ti.u with
  | slice e =>
   rw [hU] at h hut
   simp only [utOk] at hut
   subst hut
   simp only at h
   cases hge:T.t.get e with
   | none=>rw [hge] at h;exact h.elim
   | some ei =>
    rw [hge] at h
    simp only at h
    obtain⟨i',d',z',hie,hu',hsz',hby',_,hz',hzo',_⟩:=hT.t e ei hge
    split at h
    case h_2=>exact h.elim
    rename_i hb2 hb3
    have hne:ei.size≠0:=by intro h0;rw [h0] at hb2;simp at hb2
    have hzl:ei.zero.length=ei.size:=by have:=Nat.eq_of_beq_eq_true hb3;rwa [len_eq] at this
    have hzs:z'.cells.size=ei.size:=by rw [← hzo'.1];exact hzl
    obtain⟨nm,g,hnews,h⟩:=news_ok hS (by omega) hx h
    obtain⟨a,c,nl,rfl,hnl,hcells,hone,hg⟩:=hnews
    cases hs with
    | p s u hs =>
     cases hs with
     | nils =>
      simp only at h
      cases nm with
      | zero =>
       simp only at h
       exact RunOk.same hS (append_none hu hie none 0 0 (Nat.le_refl _) hu a c) (.p _ _ .nils) h
      | succ nm =>
       simp only at h
       obtain⟨⟨hby,h63⟩,h⟩:=h
       simp only [fL_eq] at h
       have hpos:0<nl.length:=by rw [hnl];exact Nat.mul_pos (by omega) (by omega)
       obtain⟨ad,rfl,_⟩:=hcells 0 nl[0] (List.getElem?_eq_getElem hpos)
       obtain⟨v',w',hr,hown,hgrow,hnil,hat⟩:=run_append_own_at (P:=P) w 0 t ty e i' z' ei.size ei.bytes hu hie hz' hsz' hby' hzs (by omega) (.slice none 0 0) 0 [] (World.ownsRow_nil w 0 e ei.size)
        ad (nm+1) c nl hnl (fun j y hy=>by obtain⟨_,e1,e2⟩:=hcells j y hy;injection e1 with e1;rw [e1];exact e2) hone (by simp only [maxLen];omega) (by rw [Nat.zero_add];exact hby) (Nat.zero_le _)
       simp only [Nat.zero_add,List.nil_append] at hown
       rcases hown.2 with ⟨_,h0⟩|⟨gb,cap,cur,rfl,_,hgh,hncap,hcapm,hcs,htake⟩
       ·omega
       ·rcases hat with hat|hat
        ·simp [Value.ownBlock] at hat
        ·simp [Value.ownBlock] at hat
         subst hat
         have hlt:w.heap.size<w'.heap.size:=(Array.getElem?_eq_some_iff.1 hgh).1
         have hgr:w.grownBy w' none:=by simpa [Value.ownBlock] using hgrow
         have hst:(m.L (len K)).step (.live 0 (nm+1) ei.size cap) False:=by rw [hS.absent (hp_len K)];trivial
         have hTr:=Tr.fresh hS (len K) w.heap.size (.live 0 (nm+1) ei.size cap) hst hgr (Nat.le_refl _)
         refine⟨_,w',_,_,_,hr,hTr,?_,?_,h⟩
         ·rw [hp_snoc]
          refine hS.fresh _ _ _ hst hgr (Nat.le_refl _) hlt _ (.inr ⟨cap,cur,rfl,hncap,hcapm,hgh,hcs,fun q hq=>⟨(hg q hq).1,fun j hj=>?_⟩⟩)
          obtain⟨y,hy1,hy2⟩:=(hg q hq).2 j hj
          refine⟨y,?_,hy2.mono hTr⟩
          rw [← htake,List.getElem?_take] at hy1
          split at hy1
          ·simpa using hy1
          ·simp at hy1
         ·have:=V.slr (w:=w') (m:=m.set (len K) w.heap.size (.live 0 (nm+1) ei.size cap)) (len K) 0 0 (nm+1) (nm+1) ei.size cap (by simp [Mp.set]) (by omega)
          simpa [Mp.set] using this
     | _=>exact h.elim
    | slr r ver off n N sz cap hL hn =>
     simp only at h
     cases off with
     | succ off=>exact appOff_ok hu hie hz' hsz' hby' hzs hne hS hL hn ⟨a,c,nl,rfl,hnl,hcells,hone,hg⟩ h
     | zero =>
      simp only at h
      cases hn':nth K r with
      | none=>rw [hn'] at h;exact h.elim
      | some b =>
       rw [hn'] at h
       have hb:=hS.blk r
       rw [hp_nth hn'] at hb
       have hlive:(m.L r).isLive:=by rw [hL];trivial
       cases b with
       | arr et sz2 ver' n' f =>
        simp only at h
        obtain⟨⟨rfl,rfl,rfl,rfl,hby,h63⟩,h⟩:=h
        simp only [fL_eq] at h
        rcases hb with ⟨hb,_⟩|⟨cap',cc,hl',hcap,hmax,h2,h4,h5⟩
        ·rw [hL] at hb;simp at hb
        obtain rfl:n=N:=by omega
        have hl2:=hl'
        rw [hL] at hl2
        injection hl2 with _ _ e3 e4
        subst e3 e4
        simp only [Nat.zero_mul,Nat.sub_zero]
        by_cases hm0:nm=0
        ·subst hm0
         refine⟨_,w,m,_,_,append_none hu hie _ _ _ hcap hu a c,Tr.refl w m,?_,?_,h⟩
         ·rw [hp_set K r _ _ hn']
          refine⟨hS.inj,hS.notI,hS.lt,hS.Ilt,hS.gl,fun q=>?_⟩
          by_cases e:q=r
          ·subst e
           simp only [upd,if_true]
           refine .inr ⟨cap,cc,hL,by omega,hmax,h2,h4,fun j hj=>?_⟩
           rw [catF_lt (by omega)]
           exact h5 j (by omega)
          ·simp only [upd,e,if_false];exact hS.blk q
         ·have:=V.slr (w:=w) r ver 0 n n ei.size cap hL (by omega)
          simpa using this
        ·have hpos:0<nl.length:=by rw [hnl];exact Nat.mul_pos (by omega) (by omega)
         obtain⟨ad,rfl,_⟩:=hcells 0 nl[0] (List.getElem?_eq_getElem hpos)
         have hnc:n*ei.size≤cap*ei.size:=Nat.mul_le_mul_right _ hcap
         have hown0:w.ownsRow 0 et ei.size (.slice (some ⟨m.ρ r,0,none⟩) n cap) n (cc.toList.take (n*ei.size)) :=
          ⟨by simp;omega,.inr ⟨m.ρ r,cap,cc,rfl,Nat.zero_le _,h2,hcap,hmax,h4,rfl⟩⟩
         obtain⟨v',w',hr,hown,hgrow,hnil,hat⟩:=run_append_own_at (P:=P) w 0 t ty et i' z' ei.size ei.bytes hu hie hz' hsz' hby' hzs (by omega) _ n _ hown0
          ad nm c nl hnl (fun j y hy=>by obtain⟨_,e1,e2⟩:=hcells j y hy;injection e1 with e1;rw [e1];exact e2) hone (by simp only [maxLen];omega) (by omega) (Nat.zero_le _)
         rcases hown.2 with ⟨_,h0⟩|⟨gb,cap2,cur,rfl,_,hgh,hncap,hcapm,hcs,htake⟩
         ·omega
         ·have hgr:w.grownBy w' (some (m.ρ r)):=by simpa [Value.ownBlock] using hgrow
          have hgb:gb=m.ρ r∨w.heap.size≤gb:=by
           rcases hat with hat|hat
           ·simp [Value.ownBlock] at hat;exact .inl hat
           ·simp [Value.ownBlock] at hat;exact .inr (by omega)
          have hstep:(m.L r).step (.live ver (n+nm) ei.size cap2) (gb=m.ρ r):=by
           rw [hL]
           exact .inr (.inr ⟨_,_,_,_,rfl,by omega⟩)
          have hlt:gb<w'.heap.size:=(Array.getElem?_eq_some_iff.1 hgh).1
          have hTr:=Tr.grow hS r gb (.live ver (n+nm) ei.size cap2) hlive hgr hstep hgb
          refine⟨_,w',_,_,_,hr,hTr,?_,?_,h⟩
          ·rw [hp_set K r _ _ hn']
           refine hS.grow r gb _ hlive hgr hstep hgb hlt _ (.inr ⟨cap2,cur,rfl,hncap,hcapm,hgh,hcs,fun q hq=>?_⟩)
           have hroom:(q+1)*ei.size≤(n+nm)*ei.size:=Nat.mul_le_mul_right _ (by omega)
           rw [Nat.add_mul,Nat.one_mul] at hroom
           have hcell:∀ j y,j<ei.size→(cc.toList.take (n*ei.size)++nl)[q*ei.size+j]?=some y→cur[q*ei.size+j]?=some y:=by
            intro j y hj hy
            rw [← htake,List.getElem?_take,if_pos (by omega)] at hy
            simpa using hy
           have hlen0:(cc.toList.take (n*ei.size)).length=n*ei.size:=by simp;omega
           by_cases hqn:q<n
           ·have hroom2:(q+1)*ei.size≤n*ei.size:=Nat.mul_le_mul_right _ (by omega)
            rw [Nat.add_mul,Nat.one_mul] at hroom2
            rw [catF_lt hqn]
            refine⟨(h5 q hqn).1,fun j hj=>?_⟩
            have hj':j<ei.size:=by rw [(h5 q hqn).1] at hj;exact hj
            obtain⟨y,hy1,hy2⟩:=(h5 q hqn).2 j hj
            refine⟨y,hcell j y hj' ?_,hy2.mono hTr⟩
            rw [List.getElem?_append_left (by omega),List.getElem?_take,if_pos (by omega)]
            simpa using hy1
           ·rw [catF_ge (by omega)]
            have hg':=hg (q - n) (by omega)
            refine⟨hg'.1,fun j hj=>?_⟩
            have hj':j<ei.size:=by rw [hg'.1] at hj;exact hj
            obtain⟨y,hy1,hy2⟩:=hg'.2 j hj
            refine⟨y,hcell j y hj' ?_,hy2.mono hTr⟩
            have hmul:q*ei.size=n*ei.size+(q - n)*ei.size:=by rw [← Nat.add_mul];congr 1;omega
            rw [List.getElem?_append_right (by omega),hlen0,show q*ei.size+j - n*ei.size=(q - n)*ei.size+j by omega]
            exact hy1
          ·have:=V.slr (w:=w') (m:=m.set r gb (.live ver (n+nm) ei.size cap2)) r ver 0 (n+nm) (n+nm) ei.size cap2 (by simp [Mp.set]) (by omega)
           simpa [Mp.set] using this
       | _=>exact h.elim
    | slrNil r ver a0 hL =>
     simp only at h
     cases hn':nth K r with
     | none=>rw [hn'] at h;exact h.elim
     | some b =>
      rw [hn'] at h
      have hb:=hS.blk r
      rw [hp_nth hn'] at hb
      cases b with
      | arr et sz2 ver' n' f =>
       simp only at h
       obtain⟨⟨rfl,rfl,rfl,rfl,hby,h63⟩,h⟩:=h
       simp only [fL_eq,Nat.zero_add] at h hby h63
       by_cases hm0:nm=0
       ·subst hm0
        refine⟨_,w,m,_,_,append_none hu hie a0 0 0 (Nat.le_refl _) hu a c,Tr.refl w m,?_,.slrNil r ver a0 hL,h⟩
        rw [hp_set K r _ _ hn']
        refine⟨hS.inj,hS.notI,hS.lt,hS.Ilt,hS.gl,fun q=>?_⟩
        by_cases e:q=r
        ·subst e
         simp only [upd,if_true]
         exact .inl ⟨hL,rfl⟩
        ·simp only [upd,e,if_false];exact hS.blk q
       ·have hpos:0<nl.length:=by rw [hnl];exact Nat.mul_pos (by omega) (by omega)
        obtain⟨ad,rfl,_⟩:=hcells 0 nl[0] (List.getElem?_eq_getElem hpos)
        have hnews:∀ j y,nl[j]?=some y→w.cell? (ad.add j)=some y:=fun j y hy=>by obtain⟨_,e1,e2⟩:=hcells j y hy;injection e1 with e1;rw [e1];exact e2
        have key:∃ v' w',(Builtin.append_ #[t,t] ty #[.slice a0 0 0,.slice (some ad) nm c]).run P w=.ok v' w'∧w'.ownsRow w.heap.size et ei.size v' nm nl∧w.grownBy w' none:=by
         cases a0 with
         | none =>
          obtain⟨v',w',hr,hown,hgrow,_,hat⟩:=run_append_own_at (P:=P) w w.heap.size t ty et i' z' ei.size ei.bytes hu hie hz' hsz' hby' hzs (by omega) (.slice none 0 0) 0 [] (World.ownsRow_nil w w.heap.size et ei.size)
           ad nm c nl hnl hnews hone (by simp only [maxLen];omega) (by rw [Nat.zero_add];exact hby) (Nat.le_refl _)
          exact⟨v',w',hr,by simpa using hown,by simpa [Value.ownBlock] using hgrow⟩
         | some b0 =>
          obtain⟨v',w',hr,hown,hgrow⟩:=run_append_arg_grows (P:=P) w t ty et i' z' ei.size ei.bytes hu hie hz' hsz' hby' hzs (by omega) b0 0 0 [] (by simp) (fun j u hj=>by simp at hj)
           ad nm c nl hnl hnews (by omega) (by simp only [maxLen];omega) (by rw [Nat.zero_add];exact hby)
          exact⟨v',w',hr,by simpa using hown,hgrow⟩
        obtain⟨v',w',hr,hown,hgr⟩:=key
        rcases hown.2 with ⟨_,h0⟩|⟨gb,cap,cur,rfl,hbase,hgh,hncap,hcapm,hcs,htake⟩
        ·omega
        ·have hlt:gb<w'.heap.size:=(Array.getElem?_eq_some_iff.1 hgh).1
         have hst:(m.L r).step (.live ver nm ei.size cap) False:=by
          rw [hL]
          exact .inr (.inr ⟨_,_,_,_,rfl,by omega⟩)
         have hTr:=Tr.fresh hS r gb (.live ver nm ei.size cap) hst hgr hbase
         refine⟨_,w',_,_,_,hr,hTr,?_,?_,h⟩
         ·rw [hp_set K r _ _ hn']
          refine hS.fresh _ _ _ hst hgr hbase hlt _ (.inr ⟨cap,cur,rfl,hncap,hcapm,hgh,hcs,fun q hq=>?_⟩)
          rw [catF_ge (by omega),Nat.sub_zero]
          refine⟨(hg q hq).1,fun j hj=>?_⟩
          obtain⟨y,hy1,hy2⟩:=(hg q hq).2 j hj
          refine⟨y,?_,hy2.mono hTr⟩
          rw [← htake,List.getElem?_take] at hy1
          split at hy1
          ·simpa using hy1
          ·simp at hy1
         ·have:=V.slr (w:=w') (m:=m.set r gb (.live ver nm ei.size cap)) r ver 0 nm nm ei.size cap (by simp [Mp.set]) (by omega)
          simpa [Mp.set] using this
      | _=>exact h.elim
    | slrEnd r ver N sz cap0 a0 hL =>
     have hlive:(m.L r).isLive:=by rw [hL];trivial
     have hmove:∀ {r':Nat} (ver':Nat) (f0:Nat→List AV) {b0:ABlk},r'=r→nth K r=some b0→nm≠0→(ver<ver'∨(ver=ver'∧N<nm))→nm*ei.bytes≤140737488355328→nm≤9223372036854775807→ei.size*0=0 →
       k (.slr r ver' 0 (0+nm)) (setN K r (.arr e ei.size ver' (0+nm) (catF 0 f0 g)))→RunOk P w m (Builtin.append_ #[t,t] ty #[.slice a0 0 0,.slice a nm c]) k:=by
      intro r' ver' f0 b0 _ hn' hm0 hst0 hby h63 _ h
      simp only [Nat.zero_add] at h
      have hpos:0<nl.length:=by rw [hnl];exact Nat.mul_pos (by omega) (by omega)
      obtain⟨ad,rfl,_⟩:=hcells 0 nl[0] (List.getElem?_eq_getElem hpos)
      have hnews:∀ j y,nl[j]?=some y→w.cell? (ad.add j)=some y:=fun j y hy=>by obtain⟨_,e1,e2⟩:=hcells j y hy;injection e1 with e1;rw [e1];exact e2
      have key:∃ v' w',(Builtin.append_ #[t,t] ty #[.slice a0 0 0,.slice (some ad) nm c]).run P w=.ok v' w'∧w'.ownsRow w.heap.size e ei.size v' nm nl∧w.grownBy w' none:=by
       cases a0 with
       | none =>
        obtain⟨v',w',hr,hown,hgrow,_,hat⟩:=run_append_own_at (P:=P) w w.heap.size t ty e i' z' ei.size ei.bytes hu hie hz' hsz' hby' hzs (by omega) (.slice none 0 0) 0 [] (World.ownsRow_nil w w.heap.size e ei.size)
         ad nm c nl hnl hnews hone (by simp only [maxLen];omega) (by rw [Nat.zero_add];exact hby) (Nat.le_refl _)
        exact⟨v',w',hr,by simpa using hown,by simpa [Value.ownBlock] using hgrow⟩
       | some b0 =>
        obtain⟨v',w',hr,hown,hgrow⟩:=run_append_arg_grows (P:=P) w t ty e i' z' ei.size ei.bytes hu hie hz' hsz' hby' hzs (by omega) b0 0 0 [] (by simp) (fun j u hj=>by simp at hj)
         ad nm c nl hnl hnews (by omega) (by simp only [maxLen];omega) (by rw [Nat.zero_add];exact hby)
        exact⟨v',w',hr,by simpa using hown,hgrow⟩
      obtain⟨v',w',hr,hown,hgrow⟩:=key
      rcases hown.2 with ⟨_,h0⟩|⟨gb,cap,cur,rfl,hbase,hgh,hncap,hcapm,hcs,htake⟩
      ·omega
      ·have hgr:w.grownBy w' (some (m.ρ r)):=⟨hgrow.os,hgrow.tape,hgrow.output,hgrow.size,fun b hb _=>hgrow.block b hb (by simp)⟩
       have hlt:gb<w'.heap.size:=(Array.getElem?_eq_some_iff.1 hgh).1
       have hst:(m.L r).step (.live ver' nm ei.size cap) (gb=m.ρ r):=by
        rw [hL]
        exact .inr (.inr ⟨_,_,_,_,rfl,hst0⟩)
       have hTr:=Tr.grow hS r gb (.live ver' nm ei.size cap) hlive hgr hst (.inr hbase)
       refine⟨_,w',_,_,_,hr,hTr,?_,?_,h⟩
       ·rw [hp_set K r _ _ hn']
        refine hS.grow r gb _ hlive hgr hst (.inr hbase) hlt _ (.inr ⟨cap,cur,rfl,hncap,hcapm,hgh,hcs,fun q hq=>?_⟩)
        rw [catF_ge (by omega),Nat.sub_zero]
        refine⟨(hg q hq).1,fun j hj=>?_⟩
        obtain⟨y,hy1,hy2⟩:=(hg q hq).2 j hj
        refine⟨y,?_,hy2.mono hTr⟩
        rw [← htake,List.getElem?_take] at hy1
        split at hy1
        ·simpa using hy1
        ·simp at hy1
       ·have:=V.slr (w:=w') (m:=m.set r gb (.live ver' nm ei.size cap)) r ver' 0 nm nm ei.size cap (by simp [Mp.set]) (by omega)
        simpa [Mp.set] using this
     have hstay:∀ {b0:ABlk} {K'':List ABlk},nth K r=some b0→nm=0→(∀ q,BlkOk w m (m.L q) (m.ρ q) (hp K'' q))→k (.slr r ver N (0+nm)) K''→RunOk P w m (Builtin.append_ #[t,t] ty #[.slice a0 0 0,.slice a nm c]) k:=by
      intro b0 K'' _ hm0 hbl h
      subst hm0
      exact⟨_,w,m,_,_,append_none hu hie a0 0 0 (Nat.le_refl _) hu a c,Tr.refl w m,⟨hS.inj,hS.notI,hS.lt,hS.Ilt,hS.gl,hbl⟩,.slrEnd r ver N sz cap0 a0 hL,h⟩
     have hsame:∀ {et:Nat} {s2 v2 n2:Nat} {f f':Nat→List AV} {K'':List ABlk} ,nth K r=some (.arr et s2 v2 n2 f)→K''=setN K r (.arr et s2 v2 n2 f')→(∀ i,i<n2→f' i=f i)→∀ q,BlkOk w m (m.L q) (m.ρ q) (hp K'' q):=by
      intro et s2 v2 n2 f f' K'' hn' hK hf q
      subst hK
      rw [hp_set K r _ _ hn']
      have hb:=hS.blk r
      rw [hp_nth hn'] at hb
      by_cases eq:q=r
      ·subst eq
       simp only [upd,if_true]
       rcases hb with hb|⟨cap',cc,h1,h2,h3,h4,h5,h6⟩
       ·exact .inl hb
       ·exact .inr ⟨cap',cc,h1,h2,h3,h4,h5,fun i hi=>by rw [hf i hi];exact h6 i hi⟩
      ·simp only [upd,eq,if_false];exact hS.blk q
     cases N with
     | zero =>
      simp only at h
      cases hn':nth K r with
      | none=>rw [hn'] at h;exact h.elim
      | some b =>
       rw [hn'] at h
       cases b with
       | arr et sz2 ver' n' f =>
        simp only at h
        obtain⟨⟨rfl,rfl,rfl,rfl,hby,h63⟩,h⟩:=h
        simp only [fL_eq] at h
        by_cases hm0:nm=0
        ·exact hstay hn' hm0 (hsame (f':=catF 0 f g) hn' (by subst hm0;rfl) (fun i hi=>by omega)) h
        ·exact hmove ver f rfl hn' hm0 (.inr ⟨rfl,by omega⟩) (by simpa using hby) (by simpa using h63) rfl h
       | _=>exact h.elim
     | succ N =>
      simp only [appOff] at h
      cases hn':nth K r with
      | none=>rw [hn'] at h;exact h.elim
      | some b =>
       rw [hn'] at h
       cases b with
       | arr et sz2 ver' n' f =>
        simp only at h
        obtain⟨⟨rfl,rfl,rfl,rfl,hby,h63⟩,h⟩:=h
        simp only [fL_eq] at h
        by_cases hm0:nm=0
        ·exact hstay hn' hm0 (hsame (f':=catF (N+1+0) f g) hn' (by subst hm0;rfl) (fun i hi=>catF_lt (by omega))) h.1
        ·exact hmove (ver+1) (fun i=>f (i+(N+1))) rfl hn' hm0 (.inl (by omega)) (Nat.le_trans (Nat.mul_le_mul_right _ (by omega)) hby) (by omega) rfl h.2
       | _=>exact h.elim
    | slrOld r ver off n ad' c' hold =>
     exfalso
     simp only at h
     cases off with
     | succ off =>
      unfold appOff at h
      cases hn':nth K r with
      | none=>rw [hn'] at h;exact h.elim
      | some b =>
       rw [hn'] at h
       have hb:=hS.blk r
       rw [hp_nth hn'] at hb
       cases b with
       | arr et sz' ver' n' f =>
        simp only at h
        obtain⟨⟨rfl,rfl,_⟩,h⟩:=h
        rcases hb with ⟨hl',_⟩|⟨cap',c,hl',_⟩
        ·rw [hl'] at hold;simp [Inf.old] at hold
        rw [hl'] at hold
        simp [Inf.old] at hold
       | _=>exact h.elim
     | zero =>
      simp only at h
      cases hn':nth K r with
      | none=>rw [hn'] at h;exact h.elim
      | some b =>
       rw [hn'] at h
       have hb:=hS.blk r
       rw [hp_nth hn'] at hb
       cases b with
       | arr et sz' ver' n' f =>
        simp only at h
        obtain⟨⟨rfl,rfl,_⟩,h⟩:=h
        rcases hb with ⟨hl',_⟩|⟨cap',c,hl',_⟩
        ·rw [hl'] at hold;simp [Inf.old] at hold
        rw [hl'] at hold
        simp [Inf.old] at hold
       | _=>exact h.elim
    | _=>exact h.elim
  | _=>rw [hU] at h;exact h.elim
theorem opMaxMin_max (hS:St w m (hp K)) {x y:AV} {u v:Value} (hx:V w m x u) (hy:V w m y v) {ts:Array TypeId} {ty:TypeId} (h:opMaxMin K k true x y):RunOk P w m (Builtin.max_ ts ty #[u,v]) k:=by
 cases hx with
 | p x u hx =>
  cases hx with
  | int q a =>
   cases hy with
   | p y v hy =>
    cases hy with
    | int q' b=>exact RunOk.same hS (by simp [Builtin.max_,Builtin.max2]) (kInt ..) h
    | _=>exact h.elim
   | _=>exact h.elim
  | _=>exact h.elim
 | _=>exact h.elim
theorem opMaxMin_min (hS:St w m (hp K)) {x y:AV} {u v:Value} (hx:V w m x u) (hy:V w m y v) {ts:Array TypeId} {ty:TypeId} (h:opMaxMin K k false x y):RunOk P w m (Builtin.min_ ts ty #[u,v]) k:=by
 cases hx with
 | p x u hx =>
  cases hx with
  | int q a =>
   cases hy with
   | p y v hy =>
    cases hy with
    | int q' b=>exact RunOk.same hS (by simp [Builtin.min_,Builtin.min2]) (kInt ..) h
    | _=>exact h.elim
   | _=>exact h.elim
  | _=>exact h.elim
 | _=>exact h.elim
theorem opLen_ok (hT:TabOk P T) (hS:St w m (hp K)) {t:TypeId} {x:AV} {u:Value} (hx:V w m x u) {ty:TypeId} (h:opLen T K k t x):RunOk P w m (Builtin.len_ #[t] ty #[u]) k:=by
 unfold opLen at h
 cases hg:T.t.get t with
 | none=>rw [hg] at h;exact h.elim
 | some ti =>
  rw [hg] at h
  simp only at h
  obtain⟨i,d,z,hi0,hu,hsz,_,hut,_⟩:=hT.t t ti hg
  cases hU:ti.u with
  | string =>
   rw [hU] at h hut
   simp only [utOk] at hut
   subst hut
   cases hx with
   | p x u hx =>
    cases hx with
    | str s l hl =>
     subst hl
     simp only [Array.length_toList] at h
     exact RunOk.same hS (u:=.int .i64 (s.data.size:Int)) (by simp only [Builtin.len_,List.getElem?_toArray,List.getElem?_cons_zero,Sem.run_bind,run_underlying hu,Result.andThen_ok,Sem.run_pure];rfl) (kInt ..) h
    | _=>exact h.elim
   | _=>exact h.elim
  | slice e =>
   rw [hU] at h hut
   simp only [utOk] at hut
   subst hut
   have hr:∀ (a:Option Addr) (n c:Nat),(Builtin.len_ #[t] ty #[.slice a n c]).run P w=.ok (.int .i64 (n:Int)) w:=by
    intro a n c
    simp only [Builtin.len_,List.getElem?_toArray,List.getElem?_cons_zero,Sem.run_bind,run_underlying hu,Result.andThen_ok,Sem.run_pure]
    rfl
   cases hx with
   | p x u hx =>
    cases hx with
    | nils=>exact RunOk.same hS (hr none 0 0) (kInt ..) h
    | sl0=>exact RunOk.same hS (hr _ _ _) (kInt ..) h
    | sl=>exact RunOk.same hS (hr _ _ _) (kInt ..) h
    | _=>exact h.elim
   | slr=>exact RunOk.same hS (hr _ _ _) (kInt ..) h
   | slrNil=>exact RunOk.same hS (hr _ _ _) (kInt ..) h
   | slrEnd=>exact RunOk.same hS (hr _ _ _) (kInt ..) h
   | slrOld=>exact RunOk.same hS (hr _ _ _) (kInt ..) h
   | _=>exact h.elim
  | _=>rw [hU] at h;exact h.elim
theorem zeroV_ok {ty:Nat} {ti:TI} (hti:TIok P ty ti) {q:AV→Prop} (h:zeroV ti q):∃ z v,(zeroValue ty).run P w=.ok z w∧V w m v z∧q v:=by
 obtain⟨i,d,z,hi,hu,_,_,_,hz,hzo,_,ha⟩:=hti
 have hr:(zeroValue ty).run P w=.ok z w:=by simp [zeroValue,typeInfo,hi,hz]
 have hV:=pvs_VL hzo w m
 unfold zeroV at h
 cases hg:ti.agg with
 | true =>
  rw [hg] at h ha
  simp only [fVL_eq] at h
  cases z with
  | agg A=>exact⟨_,_,hr,.agg _ _ hV.1 hV.2,h⟩
  | _=>simp [zAgg] at ha
 | false =>
  rw [hg] at h ha
  simp only at h
  split at h
  case h_2=>exact h.elim
  rename_i x hx
  rw [fV_eq] at h
  have hc:z.cells=#[z]:=by cases z<;>first|rfl|simp [zAgg] at ha
  rw [hx,hc] at hV
  exact⟨_,_,hr,hV.2 0 (by simp [pvs]) (by simp),h⟩
theorem opAssert_ok (hT:TabOk P T) (hS:St w m (hp K)) {xt ty:Nat} {ok:Bool} {x:AV} {u:Value} (hx:V w m x u) (h:opAssert T K k ty ok x):RunOk P w m (Instr.typeAssert u xt ty ok) k:=by
 unfold opAssert at h
 cases ok with
 | false=>exact h.elim
 | true =>
  simp only at h
  cases hg:T.t.get ty with
  | none=>rw [hg] at h;exact h.elim
  | some ti =>
   rw [hg] at h
   simp only at h
   have hti:=hT.t ty ti hg
   cases hpl:ti.u.plain with
   | false=>rw [hpl] at h;exact h.elim
   | true =>
    rw [hpl] at h
    simp only at h
    have hud:∃ d,(underlying ty).run P w=.ok d w∧∀ l,d≠.interface l:=by
     obtain⟨i,d,z,hi,hu,_,_,hut,_⟩:=hti
     refine⟨d,run_underlying hu w,fun l e=>?_⟩
     subst e
     cases hU:ti.u<;>rw [hU] at hut hpl<;>simp [utOk,UT.plain] at hut hpl
    obtain⟨d,hd,hdi⟩:=hud
    have fails:∀ (xx:Value),(xx=.nilIface∨∃ t v,xx=.iface t v∧t≠ty)→zeroV ti (fun z=>k (.tup [z,.p (.bool false)]) K)→RunOk P w m (Instr.typeAssert xx xt ty true) k:=by
     intro xx hxx hz
     obtain⟨z,v,hr,hv,hk⟩:=zeroV_ok (w:=w) (m:=m) hti hz
     refine RunOk.same hS (u:=.tuple #[z,.bool false]) ?_ (.tup _ _ rfl fun j hj hj'=>?_) hk
     ·rcases hxx with rfl|⟨t,v,rfl,hne⟩
      ·unfold Instr.typeAssert
       simp only [Sem.run_bind,hd,Result.andThen_ok]
       cases d<;>first|(exact absurd rfl (hdi _))|simp [hr]
      ·unfold Instr.typeAssert
       simp only [Sem.run_bind,hd,Result.andThen_ok]
       cases d<;>first|(exact absurd rfl (hdi _))|simp [hr,hne]
     ·match j,hj with
      | 0,_=>exact hv
      | 1,_=>exact .p _ _ (.bool false)
    cases hx with
    | p v u hv =>
     cases hv with
     | nili=>exact fails _ (.inl rfl) h
     | _=>exact h.elim
    | iface t v u hv =>
     simp only at h
     cases hb:Nat.beq t ty with
     | false =>
      rw [hb] at h
      exact fails _ (.inr ⟨t,u,rfl,fun e=>by subst e;simp at hb⟩) h
     | true =>
      rw [hb] at h
      simp only [fV_eq] at h
      have:=Nat.eq_of_beq_eq_true hb
      subst this
      refine RunOk.same hS (u:=.tuple #[u,.bool true]) ?_ (.tup _ _ rfl fun j hj hj'=>?_) h
      ·unfold Instr.typeAssert
       simp only [Sem.run_bind,hd,Result.andThen_ok]
       cases d<;>first|(exact absurd rfl (hdi _))|simp
      ·match j,hj with
       | 0,_=>exact hv
       | 1,_=>exact .p _ _ (.bool true)
    | _=>exact h.elim
end
end Go.AE
namespace Go.AE
open Op
section
variable {P:Program} {T:Tab} {w:World} {m:Mp} {K:List ABlk} {k:AV→List ABlk→Prop}
theorem ktIs_eq {a b:KT} (h:ktIs a b=true):a=b:=by
 cases a<;>cases b<;>simp [ktIs] at h ⊢
 exact h
theorem keyOf_val {a:AV} {κ:MK} (h:keyOf a=some κ) {u:Value} (hv:V w m a u):u=κ.val:=by
 cases hv with
 | p v u hv =>
  cases hv with
  | int q n=>simp only [keyOf,Option.some.injEq] at h;subst h;rfl
  | str s l hl=>simp only [keyOf,Option.some.injEq] at h;subst h hl;exact (MK.val_str s).symm
  | _=>simp [keyOf] at h
 | _=>simp [keyOf] at h
theorem mapTy_ok (hT:TabOk P T) {ty:Nat} {q:KT→TI→Prop} (h:mapTy T ty q):∃ kty e kt ei,P.underlying ty=some (.map kty e)∧P.underlying kty=some kt.desc∧TIok P e ei∧q kt ei:=by
 unfold mapTy at h
 cases hg:T.t.get ty with
 | none=>rw [hg] at h;exact h.elim
 | some ti =>
  rw [hg] at h
  simp only at h
  obtain⟨i,d,z,hi0,hu,hsz,_,hut,_⟩:=hT.t ty ti hg
  cases hU:ti.u with
  | map kty e =>
   rw [hU] at h hut
   simp only [utOk] at hut h
   subst hut
   cases hk:T.t.get kty with
   | none=>rw [hk] at h;exact h.elim
   | some ki =>
    rw [hk] at h
    simp only at h
    obtain⟨i2,d2,z2,hi2,hu2,hsz2,_,hut2,_⟩:=hT.t kty ki hk
    cases hkt:ki.u.kt with
    | none=>rw [hkt] at h;exact h.elim
    | some kt =>
     rw [hkt] at h
     simp only at h
     cases he:T.t.get e with
     | none=>rw [he] at h;exact h.elim
     | some ei =>
      rw [he] at h
      refine⟨kty,e,kt,ei,hu,?_,hT.t e ei he,h⟩
      rw [hu2]
      cases hU2:ki.u<;>rw [hU2] at hkt hut2<;>simp [UT.kt] at hkt<;>subst hkt<;>simp [utOk] at hut2<;>subst hut2<;>rfl
  | _=>rw [hU] at h;exact h.elim
theorem run_getMap {r:Nat} {es:Array MapEntry} {clock:Nat} (hb:w.heap[r]?=some (.map es clock)):(getObj r).run P w=.ok (.map es clock) w:=by simp [getObj,Sem.run,hb]
theorem run_setMap {r:Nat} {es:Array MapEntry} {clock:Nat} (o:Obj) (hb:w.heap[r]?=some (.map es clock)):(setObj r o).run P w=.ok () (w.putObj r o):=by simp [setObj,Sem.run,hb,World.putObj]
theorem checkKey_run {kty:Nat} {kt:KT} (hu:P.underlying kty=some kt.desc) (b:Bool) (κ:MK) (hκ:κ.kt=kt):(Instr.checkKey b 10000 kty κ.val).run P w=.ok () w:=by
 unfold Instr.checkKey
 simp only [Sem.run_bind,run_underlying hu,Result.andThen_ok]
 subst hκ
 cases κ<;>rfl
theorem findKey_run {kty:Nat} {kt:KT} (hu:P.underlying kty=some kt.desc) {es:List MapEntry} {κ:MK} {r:Option (Nat×Value)} (h:Instr.findNow kt.desc κ.val es 0=some r):(Instr.findKey kty κ.val es).run P w=.ok r w:=by
 unfold Instr.findKey
 simp only [Sem.run_bind,run_underlying hu,Result.andThen_ok,h,Sem.run_pure]
theorem opMakeMap_ok (hT:TabOk P T) (hS:St w m (hp K)) {ty:Nat} (h:opMakeMap T K k ty):RunOk P w m (Instr.makeMap ty none) k:=by
 obtain⟨kty,e,kt,ei,hu,huk,hei,h⟩:=mapTy_ok hT h
 simp only [fL_eq] at h
 have habs:m.L (len K)=.absent:=hS.absent (hp_len K)
 have hTr:=Tr.alloc w m (.map #[] 0) (len K) (.live 0 1 1 1) habs hS.Ilt
 refine⟨.map (some w.heap.size),w.alloc (.map #[] 0),_,_,_,by simp [Instr.makeMap],hTr,?_,?_,h⟩
 ·rw [hp_snoc]
  refine hS.alloc _ _ _ (hp_len K) _ ⟨rfl,#[],0,fun _=>none,heap_alloc_new w _,⟨MapIs.empty kt,fun _ _ _=>rfl,fun _ _ _ h=>by simp at h,fun _ _ h=>by simp at h⟩⟩
 ·have:=V.mref (w:=w.alloc (.map #[] 0)) (m:=m.set (len K) w.heap.size (.live 0 1 1 1)) (len K) 1 1 (by simp [Mp.set])
  simpa [Mp.set] using this
theorem lookup_run (hT:TabOk P T) (hS:St w m (hp K)) {ty kty e:Nat} {kt:KT} {ei:TI} (hu:P.underlying ty=some (.map kty e)) (huk:P.underlying kty=some kt.desc) (hei:TIok P e ei)
  {x:AV} {u:Value} (hx:V w m x u) {κ:MK} (hκ:κ.kt=kt) (ok:Bool) {q:(MK→Option AV)→Prop} (h:fnM K kt x q) :
  ∃ g:MK→Option AV,q g ∧
   (∀ a,g κ=some a→∃ v,V w m a v∧(Instr.lookup ty u κ.val ok).run P w=.ok (if ok then .tuple #[v,.bool true] else v) w) ∧
   (g κ=none→∀ z,(zeroValue e).run P w=.ok z w→(Instr.lookup ty u κ.val ok).run P w=.ok (if ok then .tuple #[z,.bool false] else z) w):=by
 have gen:∀ (b:Nat) (es:Array MapEntry) (clock:Nat) (r:MK→Option (Nat×Value)),w.heap[b]?=some (.map es clock)→MapIs kt es.toList clock r→∀ (g:MK→Option AV),
   (∀ κ,κ.kt=kt→g κ=none→r κ=none)→(∀ κ a,κ.kt=kt→g κ=some a→∃ i u,r κ=some (i,u)∧V w m a u)→q g→∃ g:MK→Option AV,q g ∧
   (∀ a,g κ=some a→∃ v,V w m a v∧(Instr.lookup ty (.map (some b)) κ.val ok).run P w=.ok (if ok then .tuple #[v,.bool true] else v) w) ∧
   (g κ=none→∀ z,(zeroValue e).run P w=.ok z w→(Instr.lookup ty (.map (some b)) κ.val ok).run P w=.ok (if ok then .tuple #[z,.bool false] else z) w):=by
  intro b es clock r ho hi g hno hyes hq
  refine⟨g,hq,fun a ha=>?_,fun hn z hz=>?_⟩
  ·obtain⟨i,v,h1,h2⟩:=hyes κ a hκ ha
   refine⟨v,h2,?_⟩
   have hf:=hi.find κ hκ
   rw [h1] at hf
   simp only [Instr.lookup,Sem.run_bind,run_underlying hu,Result.andThen_ok,run_getMap ho,checkKey_run huk _ κ hκ,findKey_run huk hf,Sem.run_pure]
  ·have hf:=hi.find κ hκ
   rw [hno κ hκ hn] at hf
   simp only [Instr.lookup,Sem.run_bind,run_underlying hu,Result.andThen_ok,run_getMap ho,checkKey_run huk _ κ hκ,findKey_run huk hf,Sem.run_pure,hz]
 unfold fnM at h
 cases hx with
 | p x u hx =>
  cases hx with
  | nilm =>
   refine⟨_,h,fun a ha=>by simp at ha,fun _ z hz=>?_⟩
   simp only [Instr.lookup,Sem.run_bind,run_underlying hu,Result.andThen_ok,checkKey_run huk _ κ hκ,findKey_run (es:=[]) huk (by rfl:Instr.findNow kt.desc κ.val [] 0=some none),Sem.run_pure,hz]
  | mp kt' g b es clock r hI ho hr hn hs hv =>
   simp only at h
   cases hk:ktIs kt' kt with
   | false=>rw [hk] at h;exact h.elim
   | true =>
    rw [hk] at h
    have:=ktIs_eq hk
    subst this
    refine gen b es clock r ho hr _ (fun κ hκ h=>hn κ hκ ?_) (fun κ a hκ h=>?_) h
    ·cases hq:g κ<;>simp [hq] at h ⊢
    ·cases hq:g κ with
     | none=>simp [hq] at h
     | some p =>
      simp only [hq,Option.some.injEq] at h
      subst h
      cases hr':r κ with
      | none=>have:=hs κ p hκ hq;rw [hr'] at this;simp at this
      | some x=>obtain⟨i,v⟩:=x;exact⟨i,v,rfl,.p _ _ (hv κ p i v hκ hq hr')⟩
  | _=>exact h.elim
 | mref r sz cap hL =>
  simp only at h
  cases hn:nth K r with
  | none=>rw [hn] at h;exact h.elim
  | some b =>
   rw [hn] at h
   have hb:=hS.blk r
   rw [hp_nth hn] at hb
   cases b with
   | mp kt' g st =>
    simp only at h
    cases hk:ktIs kt' kt with
    | false=>rw [hk] at h;exact h.elim
    | true =>
     rw [hk] at h
     have:=ktIs_eq hk
     subst this
     obtain⟨_,es,clock,r2,h1,h2⟩:=hb
     exact gen _ es clock r2 h1 h2.is g h2.no h2.yes h
   | _=>exact h.elim
 | mrefOld r b hold =>
  exfalso
  simp only at h
  cases hn:nth K r with
  | none=>rw [hn] at h;exact h.elim
  | some b =>
   rw [hn] at h
   have hb:=hS.blk r
   rw [hp_nth hn] at hb
   cases b with
   | mp kt' g st=>rw [hb.1] at hold;simp [Inf.old] at hold
   | _=>exact h.elim
 | _=>exact h.elim
theorem opLookup_same (hT:TabOk P T) (hS:St w m (hp K)) {ty:Nat} {ok:Bool} {x key:AV} {u v:Value} (hx:V w m x u) (hk:V w m key v) (h:opLookup T K k ty ok x key) :
  ∃ y a,(Instr.lookup ty u v ok).run P w=.ok y w∧V w m a y∧k a K:=by
 obtain⟨kty,e,kt,ei,hu,huk,hei,h⟩:=mapTy_ok hT h
 try simp only at h
 cases hko:keyOf key with
 | none=>rw [hko] at h;exact h.elim
 | some κ =>
  rw [hko] at h
  simp only at h
  cases hki:ktIs κ.kt kt with
  | false=>rw [hki] at h;exact h.elim
  | true =>
   rw [hki] at h
   simp only at h
   have hκ:=ktIs_eq hki
   have:=keyOf_val hko hk
   subst this
   obtain⟨g,hg,h1,h2⟩:=lookup_run hT hS hu huk hei hx hκ ok h
   have tup:∀ {a:AV} {y:Value} (b:Bool),V w m a y→V w m (.tup [a,.p (.bool b)]) (.tuple #[y,.bool b]):=fun b hv=>.tup _ _ rfl fun j hj hj'=>by
    match j,hj with
    | 0,_=>exact hv
    | 1,_=>exact kBool ..
   cases hgk:g κ with
   | some a =>
    have h3:=hg.y a hgk
    obtain⟨y,hv,hr⟩:=h1 a hgk
    cases ok with
    | true=>exact⟨_,_,hr,tup true hv,h3⟩
    | false=>exact⟨_,_,hr,hv,h3⟩
   | none =>
    obtain⟨z,y,hz,hv,h3⟩:=zeroV_ok (w:=w) (m:=m) hei (hg.n hgk)
    have hr:=h2 hgk z hz
    cases ok with
    | true=>exact⟨_,_,hr,tup false hv,h3⟩
    | false=>exact⟨_,_,hr,hv,h3⟩
theorem opLookup_ok (hT:TabOk P T) (hS:St w m (hp K)) {ty:Nat} {ok:Bool} {x key:AV} {u v:Value} (hx:V w m x u) (hk:V w m key v) (h:opLookup T K k ty ok x key):RunOk P w m (Instr.lookup ty u v ok) k:=by
 obtain⟨y,a,hr,hv,hk⟩:=opLookup_same hT hS hx hk h
 exact RunOk.same hS hr hv hk
theorem MpOk.ins {V':AV→Value→Prop} {kt:KT} {es:List MapEntry} {clock:Nat} {g:MK→Option AV} {st:List (MK×Nat)} {r:MK→Option (Nat×Value)} (h:MpOk V' kt es clock g st r)
  {κ:MK} (hκ:κ.kt=kt) {a:AV} {v:Value} (hv:V' a v) :
  (∀ i u,r κ=some (i,u)→MpOk V' kt (es.modify i fun e=>{ e with key:=κ.val,val:=v }) clock (insM g κ a) st (fun k=>if k=κ then some (i,v) else r k)) ∧
  (r κ=none→MpOk V' kt (es++[{ key:=κ.val,val:=v,born:=clock }]) (clock+1) (insM g κ a) st (fun k=>if k=κ then some (es.length,v) else r k)):=by
 have hno:∀ κ' (x:Option (Nat×Value)),κ'.kt=kt→insM g κ a κ'=none→(if κ'=κ then x else r κ')=none:=by
  intro κ' x h1 h2
  by_cases e:κ'=κ
  ·simp [insM,e] at h2
  ·simp only [insM,e,if_false] at h2 ⊢;exact h.no κ' h1 h2
 have hyes:∀ κ' b j,κ'.kt=kt→insM g κ a κ'=some b→∃ i u,(if κ'=κ then some (j,v) else r κ')=some (i,u)∧V' b u:=by
  intro κ' b j h1 h2
  by_cases e:κ'=κ
  ·simp only [insM,e,if_true,Option.some.injEq] at h2 ⊢
   subst h2
   exact⟨_,_,rfl,hv⟩
  ·simp only [insM,e,if_false] at h2 ⊢;exact h.yes κ' b h1 h2
 constructor
 ·intro i u hr
  refine⟨h.is.modify hκ hr v,fun κ'=>hno κ' _,fun κ' b=>hyes κ' b i,fun κ' n hm=>?_⟩
  obtain⟨h1,j,x,e,h2,h3,h4⟩:=h.st κ' n hm
  refine⟨h1,?_⟩
  have hj:(es.modify i fun e=>{ e with key:=κ.val,val:=v })[j]?=some (if i=j then { e with key:=κ.val,val:=v } else e):=by
   rw [List.getElem?_modify,h3];simp only [Option.map_eq_map,Option.map_some]
   try (split<;>rfl)
  by_cases e':κ'=κ
  ·subst e'
   rw [hr] at h2
   simp only [Option.some.injEq,Prod.mk.injEq] at h2
   obtain⟨rfl,rfl⟩:=h2
   refine⟨i,v,_,by simp,hj,?_⟩
   split<;>exact h4
  ·refine⟨j,x,_,by simp [e',h2],hj,?_⟩
   split<;>exact h4
 ·intro hr
  refine⟨h.is.push hκ hr v,fun κ'=>hno κ' _,fun κ' b=>hyes κ' b _,fun κ' n hm=>?_⟩
  obtain⟨h1,j,x,e,h2,h3,h4⟩:=h.st κ' n hm
  have e':κ'≠κ:=by rintro rfl;rw [hr] at h2;simp at h2
  have hj:j<es.length:=by
   rcases Nat.lt_or_ge j es.length with h|h
   ·exact h
   ·rw [List.getElem?_eq_none h] at h3;simp at h3
  exact⟨h1,j,x,e,by simp [e',h2],by rw [List.getElem?_append_left hj];exact h3,h4⟩
theorem keyThatStays_run (κ:MK):(Instr.keyThatStays κ.val κ.val).run P w=.ok κ.val w:=by
 have:Instr.sameBits 10000 κ.val κ.val=true:=by
  cases κ<;>simp [Instr.sameBits,MK.val,bytes_eq]
 simp [Instr.keyThatStays,this]
theorem modify_key {es:Array MapEntry} {i:Nat} {e:MapEntry} {v:Value} (h:es.toList[i]?=some e) (hk:e.key=v):(es.modify i fun e=>{ e with key:=v })=es:=by
 apply Array.ext_getElem?
 intro j
 rw [Array.getElem?_modify]
 by_cases hij:i=j
 ·subst hij
  rw [Array.getElem?_toList] at h
  rw [h]
  subst hk
  simp
 ·simp [hij]
theorem opMapUpdate_ok (hT:TabOk P T) (hS:St w m (hp K)) {ty:Nat} {x key y:AV} {u v z:Value} (hx:V w m x u) (hk:V w m key v) (hy:V w m y z) (h:opMapUpdate T K k ty x key y):RunOkU P w m (Instr.mapUpdate ty u v z) k:=by
 obtain⟨kty,e,kt,ei,hu,huk,hei,h⟩:=mapTy_ok hT h
 try simp only at h
 cases hko:keyOf key with
 | none=>rw [hko] at h;exact h.elim
 | some κ =>
  rw [hko] at h
  simp only at h
  cases hki:ktIs κ.kt kt with
  | false=>rw [hki] at h;exact h.elim
  | true =>
   rw [hki] at h
   simp only at h
   have hκ:=ktIs_eq hki
   have:=keyOf_val hko hk
   subst this
   cases hx with
   | mref r sz cap hL =>
    simp only at h
    cases hn:nth K r with
    | none=>rw [hn] at h;exact h.elim
    | some b =>
     rw [hn] at h
     have hb:=hS.blk r
     rw [hp_nth hn] at hb
     cases b with
     | mp kt' g st =>
      simp only at h
      cases hkk:ktIs kt' kt with
      | false=>rw [hkk] at h;exact h.elim
      | true =>
       rw [hkk] at h
       have:=ktIs_eq hkk
       subst this
       simp only [fL_eq] at h
       obtain⟨hl,es,clock,r2,h1,h2⟩:=hb
       have hlive:(m.L r).isLive:=by rw [hl];trivial
       have hf:=h2.is.find κ hκ
       have fin:∀ (es':Array MapEntry) (clock':Nat) (r3:MK→Option (Nat×Value)),MpOk (V w m) kt' es'.toList clock' (insM g κ y) st r3 →
         (Instr.mapUpdate ty (.map (some (m.ρ r))) κ.val z).run P w=.ok () (w.putObj (m.ρ r) (.map es' clock'))→RunOkU P w m (Instr.mapUpdate ty (.map (some (m.ρ r))) κ.val z) k:=by
        intro es' clock' r3 ho hr
        have hTr:=Tr.putObj hS r hlive (.map es' clock')
        refine⟨_,m,_,hr,hTr,?_,h⟩
        rw [hp_set K r _ _ hn]
        refine hS.putObj r hlive _ _ ⟨hl,es',clock',r3,?_,ho.mono fun _ _ _ _ hv=>hv.mono hTr⟩
        simp [World.putObj,hS.lt r hlive]
       obtain⟨hm,hpu⟩:=h2.ins hκ hy
       cases hr:r2 κ with
       | some iu =>
        obtain⟨i,u'⟩:=iu
        rw [hr] at hf
        obtain⟨e0,he0,hek,_⟩:=h2.is.at hκ hr
        have he0':es[i]?=some e0:=by rw [← Array.getElem?_toList];exact he0
        refine fin (es.modify i fun e=>{ e with key:=κ.val,val:=z }) clock _ (by rw [Array.toList_modify];exact hm i u' hr) ?_
        simp only [Instr.mapUpdate,Sem.run_bind,run_underlying hu,Result.andThen_ok,run_getMap h1,checkKey_run huk _ κ hκ,findKey_run huk hf,he0',Option.map_some,Option.getD_some,hek,keyThatStays_run,run_setMap _ h1]
       | none =>
        rw [hr] at hf
        refine fin (es.push { key:=κ.val,val:=z,born:=clock }) (clock+1) _ (by rw [Array.toList_push];exact hpu hr) ?_
        simp only [Instr.mapUpdate,Sem.run_bind,run_underlying hu,Result.andThen_ok,run_getMap h1,checkKey_run huk _ κ hκ,findKey_run huk hf,run_setMap _ h1]
     | _=>exact h.elim
   | mrefOld r b hold =>
    exfalso
    simp only at h
    cases hn:nth K r with
    | none=>rw [hn] at h;exact h.elim
    | some b =>
     rw [hn] at h
     have hb:=hS.blk r
     rw [hp_nth hn] at hb
     cases b with
     | mp kt' g st=>rw [hb.1] at hold;simp [Inf.old] at hold
     | _=>exact h.elim
   | _=>exact h.elim
theorem opMapEntry_ok (hT:TabOk P T) (hS:St w m (hp K)) {ty:Nat} {x key:AV} {u v:Value} (hx:V w m x u) (hk:V w m key v) (h:opMapEntry T K k ty x key):RunOk P w m (Instr.mapEntry ty u v) k:=by
 obtain⟨kty,e,kt,ei,hu,huk,hei,h⟩:=mapTy_ok hT h
 try simp only at h
 cases hko:keyOf key with
 | none=>rw [hko] at h;exact h.elim
 | some κ =>
  rw [hko] at h
  simp only at h
  cases hki:ktIs κ.kt kt with
  | false=>rw [hki] at h;exact h.elim
  | true =>
   rw [hki] at h
   simp only at h
   have hκ:=ktIs_eq hki
   have:=keyOf_val hko hk
   subst this
   cases hx with
   | mref r sz cap hL =>
    simp only at h
    cases hn:nth K r with
    | none=>rw [hn] at h;exact h.elim
    | some b =>
     rw [hn] at h
     have hb:=hS.blk r
     rw [hp_nth hn] at hb
     cases b with
     | mp kt' g st =>
      simp only at h
      cases hkk:ktIs kt' kt with
      | false=>rw [hkk] at h;exact h.elim
      | true =>
       rw [hkk] at h
       have:=ktIs_eq hkk
       subst this
       simp only [fL_eq] at h
       obtain⟨hl,es,clock,r2,h1,h2⟩:=hb
       have hlive:(m.L r).isLive:=by rw [hl];trivial
       have hf:=h2.is.find κ hκ
       have fin:∀ (es':Array MapEntry) (clock':Nat) (r3:MK→Option (Nat×Value)) (g':MK→Option AV) (n:Nat) (a:AV) (y:Value),MpOk (V w m) kt' es'.toList clock' g' [(κ,n)] r3→V w m a y →
         (Instr.mapEntry ty (.map (some (m.ρ r))) κ.val).run P w=.ok (.tuple #[y,goInt n]) (w.putObj (m.ρ r) (.map es' clock'))→k (.tup [a,.p (.int .i64 n)]) (setN K r (.mp kt' g' [(κ,n)]))→RunOk P w m (Instr.mapEntry ty (.map (some (m.ρ r))) κ.val) k:=by
        intro es' clock' r3 g' n a y ho hv hr hk
        have hTr:=Tr.putObj hS r hlive (.map es' clock')
        refine⟨_,_,m,_,_,hr,hTr,?_,?_,hk⟩
        ·rw [hp_set K r _ _ hn]
         refine hS.putObj r hlive _ _ ⟨hl,es',clock',r3,?_,ho.mono fun _ _ _ _ hv=>hv.mono hTr⟩
         simp [World.putObj,hS.lt r hlive]
        ·exact .tup _ _ rfl fun j hj hj'=>by
          match j,hj with
          | 0,_=>exact hv.mono hTr
          | 1,_=>exact kInt ..
       cases hr:r2 κ with
       | some iu =>
        obtain⟨i,u'⟩:=iu
        rw [hr] at hf
        obtain⟨e0,he0,hek,_⟩:=h2.is.at hκ hr
        have he0':es[i]?=some e0:=by rw [← Array.getElem?_toList];exact he0
        cases hgk:g κ with
        | none=>have:=h2.no κ hκ hgk;rw [hr] at this;simp at this
        | some a =>
         obtain⟨i',y,h3,h4⟩:=h2.yes κ a hκ hgk
         rw [hr] at h3
         simp only [Option.some.injEq,Prod.mk.injEq] at h3
         obtain⟨rfl,rfl⟩:=h3
         refine fin es clock r2 g e0.born a u' ⟨h2.is,h2.no,h2.yes,fun κ' n hm=>?_⟩ h4 ?_ ((h e0.born).y a hgk)
         ·simp only [List.mem_singleton,Prod.mk.injEq] at hm
          obtain⟨rfl,rfl⟩:=hm
          exact⟨hκ,i,u',e0,hr,he0,rfl⟩
         ·simp only [Instr.mapEntry,Sem.run_bind,run_underlying hu,Result.andThen_ok,run_getMap h1,checkKey_run huk _ κ hκ,findKey_run huk hf,he0',Option.map_some,Option.getD_some,hek,keyThatStays_run,run_setMap _ h1,Sem.run_pure,modify_key he0 hek]
       | none =>
        rw [hr] at hf
        cases hgk:g κ with
        | some a=>obtain⟨i',y,h3,h4⟩:=h2.yes κ a hκ hgk;rw [hr] at h3;simp at h3
        | none =>
         obtain⟨z,y,hz,hv,h3⟩:=zeroV_ok (w:=w) (m:=m) hei ((h clock).n hgk)
         have hpu:=(h2.ins hκ hv).2 hr
         have hmp:MpOk (V w m) kt' (es.toList++[{ key:=κ.val,val:=z,born:=clock }]) (clock+1) (insM g κ y) [(κ,clock)] (fun k=>if k=κ then some (es.toList.length,z) else r2 k):=by
          refine⟨hpu.is,hpu.no,hpu.yes,fun κ' n hm=>?_⟩
          simp only [List.mem_singleton,Prod.mk.injEq] at hm
          obtain⟨rfl,rfl⟩:=hm
          exact⟨hκ,es.toList.length,z,{ key:=κ'.val,val:=z,born:=n },by simp,by simp,rfl⟩
         refine fin (es.push { key:=κ.val,val:=z,born:=clock }) (clock+1) _ _ clock y z (by rw [Array.toList_push];exact hmp) hv ?_ h3
         ·simp only [Instr.mapEntry,Sem.run_bind,run_underlying hu,Result.andThen_ok,run_getMap h1,checkKey_run huk _ κ hκ,findKey_run huk hf,hz,run_setMap _ h1,Sem.run_pure]
     | _=>exact h.elim
   | mrefOld r b hold =>
    exfalso
    simp only at h
    cases hn:nth K r with
    | none=>rw [hn] at h;exact h.elim
    | some b =>
     rw [hn] at h
     have hb:=hS.blk r
     rw [hp_nth hn] at hb
     cases b with
     | mp kt' g st=>rw [hb.1] at hold;simp [Inf.old] at hold
     | _=>exact h.elim
   | _=>exact h.elim
theorem opEntryStore_ok (hS:St w m (hp K)) {ty:Nat} {x s y:AV} {u v z:Value} (hx:V w m x u) (hs:V w m s v) (hy:V w m y z) (h:opEntryStore K k x s y):RunOkU P w m (Instr.entryStore ty u v z) k:=by
 unfold opEntryStore at h
 cases hx with
 | mref r sz cap hL =>
  simp only at h
  cases hs with
  | p s v hs =>
   cases hs with
   | int q b =>
    simp only at h
    cases hn:nth K r with
    | none=>rw [hn] at h;exact h.elim
    | some bl =>
     rw [hn] at h
     have hb:=hS.blk r
     rw [hp_nth hn] at hb
     cases bl with
     | mp kt' g st =>
      split at h
      case h_2=>exact h.elim
      rename_i kt2 g2 κ n heq
      injection heq with heq
      injection heq with e1 e2 e3
      subst e1 e2 e3
      obtain⟨rfl,h⟩:=h
      simp only [fL_eq] at h
      obtain⟨hl,es,clock,r2,h1,h2⟩:=hb
      have hlive:(m.L r).isLive:=by rw [hl];trivial
      obtain⟨hκ,i,x,e0,hr,he0,hbo⟩:=h2.st κ n (by simp)
      have hm:=(h2.ins hκ hy).1 i x hr
      have he0':es[i]?=some e0:=by rw [← Array.getElem?_toList];exact he0
      obtain⟨e1,he1,hek,_⟩:=h2.is.at hκ hr
      rw [he0] at he1
      injection he1 with he1
      subst he1
      have hfi:es.findIdx? (fun e=>((e.born:Int)==(n:Int)))=some i:=by
       rw [Array.findIdx?_eq_some_iff_getElem]
       obtain⟨hlt,hge⟩:=Array.getElem?_eq_some_iff.1 he0'
       refine⟨hlt,by rw [hge,hbo];simp,fun j hj hb=>?_⟩
       have hj':es.toList[j]?=some es[j]:=by simp [List.getElem?_eq_getElem,Nat.lt_trans hj hlt]
       have:=h2.is.born j i es[j] e0 hj' he0 (by rw [hbo];exact Int.ofNat.inj (by simpa using hb))
       omega
      have hTr:=Tr.putObj hS r hlive (.map (es.modify i fun e=>{ e with key:=κ.val,val:=z }) clock)
      refine⟨_,m,_,?_,hTr,?_,h⟩
      ·have hsame:(es.modify i fun e=>{ e with val:=z })=es.modify i fun e=>{ e with key:=κ.val,val:=z }:=by
        apply Array.ext_getElem?
        intro j
        rw [Array.getElem?_modify,Array.getElem?_modify]
        by_cases hij:i=j
        ·subst hij
         rw [he0']
         simp [hek]
        ·simp [hij]
       simp only [Instr.entryStore,Sem.run_bind,Result.andThen_ok,run_getMap h1,asInt,asIntOf,Sem.run_pure,hfi,run_setMap _ h1,hsame]
      ·rw [hp_set K r _ _ hn]
       have hmp:MpOk (V w m) kt' (es.modify i fun e=>{ e with key:=κ.val,val:=z }).toList clock (insM g κ y) [] (fun k=>if k=κ then some (i,z) else r2 k):=by
        rw [Array.toList_modify];exact⟨hm.is,hm.no,hm.yes,fun _ _ hm=>by simp at hm⟩
       exact hS.putObj r hlive _ (.mp kt' (insM g κ y) []) ⟨hl,es.modify i fun e=>{ e with key:=κ.val,val:=z },clock,_,by simp [World.putObj,hS.lt r hlive],hmp.mono fun _ _ _ _ hv=>V.mono hTr hv⟩
     | _=>exact h.elim
   | _=>exact h.elim
  | _=>exact h.elim
 | mrefOld r b hold =>
  exfalso
  simp only at h
  cases hs with
  | p s v hs =>
   cases hs with
   | int q b =>
    simp only at h
    cases hn:nth K r with
    | none=>rw [hn] at h;exact h.elim
    | some bl =>
     rw [hn] at h
     have hb:=hS.blk r
     rw [hp_nth hn] at hb
     cases bl with
     | mp kt' g st=>rw [hb.1] at hold;simp [Inf.old] at hold
     | _=>exact h.elim
   | _=>exact h.elim
  | _=>exact h.elim
 | _=>exact h.elim
end
end Go.AE
namespace Go.AE
section
variable {P:Program} {T:Tab}
theorem EnvOk.ev {w:World} {m:Mp} {t:List (Nat×AV)} {a:Act} (h:EnvOk w m t a.tmps) (o:Operand):V w m (ev t o) (a.eval o):=by
 cases o with
 | tmp i=>exact h i
 | func f=>exact .p _ _ (.fn f)
 | global g=>exact .junk _
 | const v =>
  simp only [AE.ev,Act.eval]
  unfold ofConst
  split
  ·exact .p _ _ (.int ..)
  ·exact .p _ _ (.bool ..)
  ·exact .p _ _ (.str _ _ rfl)
  ·exact .p _ _ .nilp
  ·exact .p _ _ .nils
  ·exact .p _ _ .nilf
  ·exact .p _ _ .nili
  ·exact .p _ _ .nilm
  ·exact .junk _
theorem EnvOk.mono {w w':World} {m m':Mp} (t:Tr w m w' m') {e:List (Nat×AV)} {tmps:Array Value} (h:EnvOk w m e tmps):EnvOk w' m' e tmps:=fun d=>(h d).mono t
theorem EnvOk.evs {w:World} {m:Mp} {t:List (Nat×AV)} {a:Act} (h:EnvOk w m t a.tmps) (l:List Operand):VL w m (evs t l) (l.map a.eval).toArray:=by
 induction l with
 | nil=>exact VL.nil w m
 | cons x l ih =>
  refine⟨by have:=ih.1;simp [AE.evs] at this ⊢;exact this,fun j hj hj'=>?_⟩
  cases j with
  | zero=>simpa [AE.evs] using h.ev x
  | succ j =>
   have hj2:j<(AE.evs t l).length:=by simpa [AE.evs] using hj
   have:=ih.2 j hj2 (by simpa using hj')
   simpa [AE.evs] using this
theorem EnvOk.parts {w:World} {m:Mp} {t:List (Nat×AV)} {a:Act} (h:EnvOk w m t a.tmps) (l:List (Nat×Operand)):PL w m (partsOf t l) (l.map fun (i,x)=>(i,a.eval x)):=by
 induction l with
 | nil=>trivial
 | cons x l ih=>exact⟨rfl,h.ev x.2,ih⟩
theorem EnvOk.opt {w:World} {m:Mp} {t:List (Nat×AV)} {a:Act} (h:EnvOk w m t a.tmps) (o:Option Operand):bndOk w m (optEv t o) (o.map a.eval):=by
 cases o with
 | none=>trivial
 | some x=>exact h.ev x
theorem look_cons (t:List (Nat×AV)) (d:Nat) (v:AV) (i:Nat):look ((d,v)::t) i=if d=i then v else look t i:=by
 simp only [look]
 by_cases h:d=i
 ·subst h;simp
 ·rw [if_neg h]
  have:Nat.beq d i=false:=by cases e:Nat.beq d i with
   | true=>exact absurd (Nat.eq_of_beq_eq_true e) h
   | false=>rfl
  rw [this]
theorem EnvOk.set {w:World} {m:Mp} {t:List (Nat×AV)} {tmps:Array Value} (h:EnvOk w m t tmps) {d:Nat} (hd:d<tmps.size) {v:AV} {u:Value} (hv:V w m v u):EnvOk w m ((d,v)::t) (tmps.setIfInBounds d u):=by
 intro i
 rw [look_cons]
 by_cases e:d=i
 ·subst e
  rw [if_pos rfl]
  simpa [Array.getD,hd] using hv
 ·rw [if_neg e]
  have:(tmps.setIfInBounds d u).getD i undef=tmps.getD i undef:=by
   simp only [Array.getD_eq_getD_getElem?,Array.getElem?_setIfInBounds]
   rw [if_neg e]
  rw [this]
  exact h i
theorem EnvOk.put {w:World} {m:Mp} {t:List (Nat×AV)} {a:Act} (h:EnvOk w m t a.tmps) {d:Option Nat} (hd:∀ x,d=some x→x<a.tmps.size) {v:AV} {u:Value} (hv:V w m v u):EnvOk w m (put t d v) (a.put d u).tmps:=by
 cases d with
 | none=>exact h
 | some d=>exact h.set (hd d rfl) hv
theorem EnvOk.know {w:World} {m:Mp} {t:List (Nat×AV)} {tmps:Array Value} (h:EnvOk w m t tmps) {d:Nat} {b:Bool} (hd:look t d=.p (.bool b)):EnvOk w m (know t d b) tmps:=by
 intro i
 simp only [AE.know]
 rw [look_cons]
 by_cases e:d=i
 ·subst e
  rw [if_pos rfl]
  have:=h d
  rwa [hd] at this
 ·rw [if_neg e];exact h i
theorem EnvOk.bool {w:World} {m:Mp} {t:List (Nat×AV)} {tmps:Array Value} (h:EnvOk w m t tmps) {d:Nat} {b:Bool} (hd:look t d=.p (.bool b)):tmps[d]?=some (.bool b):=by
 have hv:=h d
 rw [hd] at hv
 have e:tmps.getD d undef=.bool b:=by
  cases hv with
  | p v u hv =>
   generalize tmps.getD d undef=x at hv
   cases hv
   rfl
 rw [Array.getD_eq_getD_getElem?] at e
 cases hx:tmps[d]? with
 | none=>rw [hx] at e;simp [undef] at e
 | some y=>rw [hx] at e;simp at e;rw [e]
def Post (we:World) (me:Mp) (k:AO→List ABlk→Prop):Ending→World→Prop
 | .returned u,w'=>∃ m' a K',Tr we me w' m'∧St w' m' (hp K')∧V w' m' a u∧k (.ret a) K'
 | .panicked ch,w'=>∃ m' a u K',ch=[{ v:=u,recovered:=false }]∧Tr we me w' m'∧St w' m' (hp K')∧V w' m' a u∧k (.pan a) K'
 | .outgrown,_=>False
def Ent (P : Program) (f : FuncId) : Prop := ∃ fn, P.funcs[f]? = some fn ∧ (fn.name == "runtime.NumGoroutine") = false ∧ fn.body.isSome = true
def ACalls (P:Program) (f:FuncId) (args:List AV) (K:List ABlk) (k:AO→List ABlk→Prop):Prop :=
 Ent P f∧∀ w m Args,St w m (hp K)→VL w m args Args→Calls P f Args w (Post w m k)
def FW (ro:Option Nat):Fence:={ Fence.wide with round:=ro }
theorem FW.calls {ro:Option Nat} {n:Nat} {f:FuncId} {args:Array Value} {w:World} {R:Ending→World→Prop} (h:Calls P f args w R):CallsIn (FW ro) n P f args w R :=
 (callsIn_wide (n:=n)).2 h
theorem FW.depth {ro:Option Nat} {n:Nat}:(FW ro).depth.isSome=true→1≤n:=fun h=>by simp [FW,Fence.wide] at h
def ARound (P:Program) (r:Nat) (args:List AV) (K:List ABlk) (k:AO→List ABlk→Prop):Prop :=
 ∀ w m Args u,St w m (hp K)→VL w m args Args→V w m (.yld r) u→∃ l f tmps assign body,u=.func (.yield l) #[] #[] ∧
  (Instr.yield l Args).run P w=.ok (.round l f tmps assign body) w∧∀ n,RoundIn (FW none) n P l f tmps assign body w (Post w m k)
def CallOk (P:Program) (call:ACall):Prop:=∀ f args K k,call f args K k →
 (Nat.blt f 1000000000=true→ACalls P f args K k)∧(Nat.blt f 1000000000=false→ARound P (Nat.sub f 1000000000) args K k)
theorem callF_ok {call:ACall} (hcall:CallOk P call) {f:FuncId} {args:List AV} {K:List ABlk} {k:AO→List ABlk→Prop} (h:callF call f args K k):ACalls P f args K k:=by
 unfold callF at h
 split at h
 ·rename_i hb;exact (hcall _ _ _ _ h).1 hb
 ·exact h.elim
theorem callFunc_run {f:FuncId} (h:Ent P f) (args:Array Value) (w:World):(callFunc f args).run P w=.ok (.enter f args) w:=by
 obtain⟨fn,h1,h2,h3⟩:=h
 have h4:fn.body.isNone=false:=by cases hb:fn.body<;>simp_all
 simp only [callFunc,Sem.run_bind,run_program,Result.andThen_ok,h1,h2,h4,Bool.false_eq_true,if_false,Sem.run_pure]
theorem exec_val {s:Sem Value} {w w':World} {u:Value} (h:s.run P w=.ok u w'):(do pure (Next.value (← s)):Sem Next).run P w=.ok (.value u) w':=by
 simp [h]
variable {call:ACall} {w:World} {m:Mp} {K:List ABlk} {k kp:AV→List ABlk→Prop} {next:Act→World→Prop} {Q:Exit→Act→World→Prop} {a:Act} {t:List (Nat×AV)} {ro:Option Nat} {nn:Nat}
theorem upon_val {o:Oper} {s:Sem Value} (hk:∀ w' m' v K' u,Tr w m w' m'→St w' m' (hp K')→V w' m' v u→k v K'→next (a.put o.dst u) w') (h:RunOk P w m s k) :
  o.uponIn (FW ro) nn P a next Q ((do pure (Next.value (← s)):Sem Next).run P w):=by
 obtain⟨u,w',m',v,K',hr,h1,h2,h3,h4⟩:=h
 rw [exec_val hr]
 exact hk w' m' v K' u h1 h2 h3 h4
theorem aop_ok (hT:TabOk P T) (hcall:CallOk P call) {o:Oper} (hS:St w m (hp K)) (hE:EnvOk w m t a.tmps)
  (hk:∀ w' m' v K' u,Tr w m w' m'→St w' m' (hp K')→V w' m' v u→k v K'→next (a.put o.dst u) w')
  (hpn:∀ w' m' v K' u,Tr w m w' m'→St w' m' (hp K')→V w' m' v u→kp v K'→Q (.panic [{ v:=u,recovered:=false }]) a w')
  (h:aop T call o t K k kp):o.uponIn (FW ro) nn P a next Q ((execOp a.eval o).run P w):=by
 unfold aop at h
 unfold execOp
 cases hop:o.op with
 | move x =>
  rw [hop] at h
  simp only [fV_eq] at h
  exact hk w m _ K _ (Tr.refl w m) hS (hE.ev x) h
 | assign x =>
  rw [hop] at h
  simp only [fV_eq] at h
  exact hk w m _ K _ (Tr.refl w m) hS (hE.ev x) h
 | pick c x y =>
  rw [hop] at h
  simp only at h
  have hc:=hE.ev c
  split at h
  case h_2=>exact h.elim
  rename_i q hq
  rw [hq] at hc
  cases hc with
  | p v u hv =>
   cases hvv:a.eval c with
   | bool b =>
    rw [hvv] at hv
    cases hv
    simp only [asBool,hvv]
    cases q with
    | true=>simp only [two,fV_eq] at h;exact hk w m _ K _ (Tr.refl w m) hS (hE.ev x) h
    | false=>simp only [two,fV_eq] at h;exact hk w m _ K _ (Tr.refl w m) hS (hE.ev y) h
   | _=>rw [hvv] at hv;cases hv
 | alloc e=>rw [hop] at h;exact upon_val hk (opAlloc_ok hT hS h)
 | box e x=>rw [hop] at h;exact upon_val hk (opBox_ok hS (hE.ev x) h)
 | build ty ps=>rw [hop] at h;exact upon_val hk (opBuild_ok hT hS (by simpa using hE.parts ps.toList) h)
 | buildSlice ty n ps=>rw [hop] at h;exact upon_val hk (opBuildSlice_ok hT hS (by simpa using hE.parts ps.toList) h)
 | load ty x=>rw [hop] at h;exact upon_val hk (opLoad_ok hT hS (hE.ev x) h)
 | store ty x y =>
  rw [hop] at h
  obtain⟨w',m',K',hr,h1,h2,h3⟩:=opStore_ok hT hS (hE.ev x) (hE.ev y) h
  have:(do Instr.storeAt ty (a.eval x) (a.eval y);pure Next.skip:Sem Next).run P w=.ok .skip w':=by simp [hr]
  simp only [this]
  exact hk w' m' .junk K' undef h1 h2 (.junk _) h3
 | makeMap ty r =>
  rw [hop] at h
  cases r with
  | none=>exact upon_val hk (opMakeMap_ok hT hS h)
  | some _=>exact h.elim
 | lookup ty x y ok=>rw [hop] at h;exact upon_val hk (opLookup_ok hT hS (hE.ev x) (hE.ev y) h)
 | mapEntry ty x y=>rw [hop] at h;exact upon_val hk (opMapEntry_ok hT hS (hE.ev x) (hE.ev y) h)
 | mapUpdate ty x y z =>
  rw [hop] at h
  obtain⟨w',m',K',hr,h1,h2,h3⟩:=opMapUpdate_ok hT hS (hE.ev x) (hE.ev y) (hE.ev z) h
  have:(do Instr.mapUpdate ty (a.eval x) (a.eval y) (a.eval z);pure Next.skip:Sem Next).run P w=.ok .skip w':=by simp [hr]
  simp only [this]
  exact hk w' m' .junk K' undef h1 h2 (.junk _) h3
 | insert ty x y z =>
  rw [hop] at h
  obtain⟨w',m',K',hr,h1,h2,h3⟩:=opMapUpdate_ok hT hS (hE.ev x) (hE.ev y) (hE.ev z) h
  have:(do Instr.mapUpdate ty (a.eval x) (a.eval y) (a.eval z);pure Next.skip:Sem Next).run P w=.ok .skip w':=by simp [hr]
  simp only [this]
  exact hk w' m' .junk K' undef h1 h2 (.junk _) h3
 | entryStore ty x y z =>
  rw [hop] at h
  obtain⟨w',m',K',hr,h1,h2,h3⟩:=opEntryStore_ok (ty:=ty) hS (hE.ev x) (hE.ev y) (hE.ev z) h
  have:(do Instr.entryStore ty (a.eval x) (a.eval y) (a.eval z);pure Next.skip:Sem Next).run P w=.ok .skip w':=by rw [Sem.run_bind,hr];rfl
  simp only [this]
  exact hk w' m' .junk K' undef h1 h2 (.junk _) h3
 | nilCheck x =>
  rw [hop] at h
  simp only at h
  have hx:=hE.ev x
  simp only
  generalize ev t x=ax at h hx
  generalize a.eval x=ux at hx
  cases hx with
  | p v u hv =>
   cases hv with
   | fn f=>exact hk w m _ K _ (Tr.refl w m) hS (.p _ _ (.fn f)) h
   | _=>exact h.elim
  | ptr r ver n i off sz cap hL hi=>exact hk w m _ K _ (Tr.refl w m) hS (.ptr r ver n i off sz cap hL hi) h
  | ptrOld r ver n i off b o' hold=>exact hk w m _ K _ (Tr.refl w m) hS (.ptrOld r ver n i off b o' hold) h
  | rop cs off b o' u hI hc hv=>exact hk w m _ K _ (Tr.refl w m) hS (.rop cs off b o' u hI hc hv) h
  | fn f first cap A B hA hB h1 h2=>exact hk w m _ K _ (Tr.refl w m) hS (.fn f first cap A B hA hB h1 h2) h
  | iface ty v u hv=>exact hk w m _ K _ (Tr.refl w m) hS (.iface ty v u hv) h
  | _=>exact h.elim
 | binOp op ty x y yt =>
  rw [hop] at h
  simp only at h
  cases hc:nilC y with
  | none=>rw [hc] at h;exact upon_val hk (opBin_ok hT hS (hE.ev x) (hE.ev y) x y h)
  | some c =>
   rw [hc] at h
   have hy:∃ v,y=.const v:=by
    rcases nilC_val hc with ⟨rfl,_⟩|⟨rfl,_⟩|⟨rfl,_⟩<;>exact⟨_,rfl⟩
   obtain⟨v,rfl⟩:=hy
   exact upon_val hk (opNilCmp_ok hT hS (hE.ev x) x (.const v) hc rfl h)
 | unOp op ty x=>rw [hop] at h;exact upon_val hk (opUn_ok hS (hE.ev x) h)
 | convert s d x=>rw [hop] at h;exact upon_val hk (opConv_ok hT hS (hE.ev x) h)
 | makeInterface ty x=>rw [hop] at h;exact upon_val hk (opIface_ok hT hS (hE.ev x) h)
 | makeFunc fn x y =>
  rw [hop] at h
  cases fn with
  | func f =>
   simp only [fVL_eq] at h
   have h1:=hE.evs x.toList
   have h2:=hE.evs y.toList
   have e1:(x.toList.map a.eval).toArray=x.map a.eval:=by apply Array.ext';simp
   have e2:(y.toList.map a.eval).toArray=y.map a.eval:=by apply Array.ext';simp
   rw [e1] at h1
   rw [e2] at h2
   exact hk w m _ K _ (Tr.refl w m) hS (.fn f _ _ _ _ h1.1 h2.1 h1.2 h2.2) h
  | _=>exact h.elim
 | makeSlice ty l c=>rw [hop] at h;exact upon_val hk (opMakeSlice_ok hT hS (hE.ev l) (hE.ev c) h)
 | slice ty x lo hi mx =>
  rw [hop] at h
  cases mx with
  | none=>exact upon_val hk (opSlice_ok hT hS (hE.ev x) (hE.opt lo) (hE.opt hi) h)
  | some _=>exact h.elim
 | fieldAddr ty x i=>rw [hop] at h;exact upon_val hk (opFieldAddr_ok hT hS (hE.ev x) h)
 | field ty x i=>rw [hop] at h;exact upon_val hk (opField_ok hT hS (hE.ev x) h)
 | indexAddr ty x i=>rw [hop] at h;exact upon_val hk (opIndexAddr_ok hT hS (hE.ev x) (hE.ev i) h)
 | index ty x i=>rw [hop] at h;exact upon_val hk (opIndex_ok hT hS (hE.ev x) (hE.ev i) h)
 | extract x i=>rw [hop] at h;exact upon_val hk (opExtract_ok hS (hE.ev x) h)
 | typeAssert x xt ty ok=>rw [hop] at h;exact upon_val hk (opAssert_ok hT hS (hE.ev x) h)
 | panic x =>
  rw [hop] at h
  simp only at h
  have hx:=hE.ev x
  split at h
  case h_2=>exact h.elim
  rename_i ty v hq
  rw [hq] at hx
  generalize hux:a.eval x=ux at hx
  cases hx with
  | iface ty v u hv =>
   have:(do pure (Next.value (← Instr.panic (a.eval x))):Sem Next).run P w=.halt (.panic (.iface ty u)) w:=by simp [Instr.panic,hux]
   simp only [this]
   exact hpn w m _ K _ (Tr.refl w m) hS (.iface ty v u hv) h
 | call c =>
  rw [hop] at h
  simp only at h ⊢
  cases hc:c.callee with
  | invoke r n=>rw [hc] at h;exact h.elim
  | builtin b =>
   rw [hc] at h
   simp only at h
   have hres:(resolve a.eval c o.type).run P w=.ok { target:=.builtin b c.argTypes o.type (c.args.map fun | .const _=>true|_=>false),args:=c.args.map a.eval } w:=by
    simp only [resolve,hc];rfl
   cases b with
   | len =>
    simp only at h
    split at h
    case h_2=>exact h.elim
    rename_i x hx
    split at h
    case h_2=>exact h.elim
    rename_i ty hty
    have hargs:c.args=#[x]:=by apply Array.ext';simpa using hx
    have htys:c.argTypes=#[ty]:=by apply Array.ext';simpa using hty
    have hr:=opLen_ok (ty:=o.type) hT hS (hE.ev x) h
    have e:(do let d ← resolve a.eval c o.type;invoke d.target d.args:Sem Next).run P w=(do pure (Next.value (← Builtin.len_ #[ty] o.type #[a.eval x])):Sem Next).run P w:=by
     rw [Sem.run_bind,hres]
     simp [invoke,builtin,hargs,htys]
    rw [e]
    exact upon_val hk hr
   | append =>
    simp only at h
    split at h
    case h_2=>exact h.elim
    rename_i s x hx
    split at h
    case h_2=>exact h.elim
    rename_i ty ty' hty
    split at h
    case h_2=>exact h.elim
    rename_i hb
    have:=Nat.eq_of_beq_eq_true hb
    subst this
    have hargs:c.args=#[s,x]:=by apply Array.ext';simpa using hx
    have htys:c.argTypes=#[ty,ty]:=by apply Array.ext';simpa using hty
    have hr:=opAppend_ok (ty:=o.type) hT hS (hE.ev s) (hE.ev x) h
    have e:(do let d ← resolve a.eval c o.type;invoke d.target d.args:Sem Next).run P w=(do pure (Next.value (← Builtin.append_ #[ty,ty] o.type #[a.eval s,a.eval x])):Sem Next).run P w:=by
     rw [Sem.run_bind,hres]
     simp [invoke,builtin,hargs,htys]
    rw [e]
    exact upon_val hk hr
   | max =>
    simp only at h
    split at h
    case h_2=>exact h.elim
    rename_i s x hx
    have hargs:c.args=#[s,x]:=by apply Array.ext';simpa using hx
    have hr:=opMaxMin_max (P:=P) (ts:=c.argTypes) (ty:=o.type) hS (hE.ev s) (hE.ev x) h
    have e:(do let d ← resolve a.eval c o.type;invoke d.target d.args:Sem Next).run P w=(do pure (Next.value (← Builtin.max_ c.argTypes o.type #[a.eval s,a.eval x])):Sem Next).run P w:=by
     rw [Sem.run_bind,hres]
     simp [invoke,builtin,hargs]
    rw [e]
    exact upon_val hk hr
   | min =>
    simp only at h
    split at h
    case h_2=>exact h.elim
    rename_i s x hx
    have hargs:c.args=#[s,x]:=by apply Array.ext';simpa using hx
    have hr:=opMaxMin_min (P:=P) (ts:=c.argTypes) (ty:=o.type) hS (hE.ev s) (hE.ev x) h
    have e:(do let d ← resolve a.eval c o.type;invoke d.target d.args:Sem Next).run P w=(do pure (Next.value (← Builtin.min_ c.argTypes o.type #[a.eval s,a.eval x])):Sem Next).run P w:=by
     rw [Sem.run_bind,hres]
     simp [invoke,builtin,hargs]
    rw [e]
    exact upon_val hk hr
   | _=>exact h.elim
  | value f =>
   rw [hc] at h
   simp only [fVL_eq] at h
   have hf:=hE.ev f
   have hargs:=hE.evs c.args.toList
   have e1:(c.args.toList.map a.eval).toArray=c.args.map a.eval:=by apply Array.ext';simp
   rw [e1] at hargs
   have key:∀ g (args:List AV) (Args:Array Value),VL w m args Args→(callF call g args K fun out K'=>match out with
     | .ret v=>fV v fun v=>k v K'
     | .pan v=>kp v K')→o.uponIn (FW ro) nn P a next Q (.ok (.enter g Args) w):=by
    intro g args Args hA hcl
    obtain⟨_,hcalls⟩:=callF_ok hcall hcl
    rw [Oper.uponIn_enter]
    refine⟨FW.depth,FW.calls ((hcalls w m Args hS hA).mono fun e w' hR=>?_)⟩
    cases e with
    | returned v =>
     obtain⟨m',av,K',h1,h2,h3,h4⟩:=hR
     simp only [fV_eq] at h4
     exact hk w' m' av K' v h1 h2 h3 h4
    | panicked ch =>
     obtain⟨m',av,u,K',rfl,h1,h2,h3,h4⟩:=hR
     exact hpn w' m' av K' u h1 h2 h3 h4
    | outgrown=>exact hR.elim
   have entr:∀ g (args:List AV),(callF call g args K fun out K'=>match out with
     | .ret v=>fV v fun v=>k v K'
     | .pan v=>kp v K')→Ent P g:=fun g args hcl=>(callF_ok hcall hcl).1
   generalize haf:a.eval f=uf at hf
   generalize ev t f=af at h hf
   have yl:∀ r,V w m (.yld r) uf→(call (Nat.add 1000000000 r) (evs t c.args.toList) K fun out K'=>match out with
     | .ret v=>fV v fun v=>k v K'
     | .pan v=>kp v K')→o.uponIn (FW ro) nn P a next Q ((do let d ← resolve a.eval c o.type;invoke d.target d.args:Sem Next).run P w):=by
    intro r hv hcl
    have hnb:Nat.blt (Nat.add 1000000000 r) 1000000000=false:=by
     cases hb:Nat.blt (Nat.add 1000000000 r) 1000000000 with
     | true=>have:=Nat.le_of_ble_eq_true hb;simp only [Nat.add_eq,Nat.succ_eq_add_one] at this;omega
     | false=>rfl
    have har:=(hcall _ _ _ _ hcl).2 hnb
    have hsub:Nat.sub (Nat.add 1000000000 r) 1000000000=r:=by simp
    rw [hsub] at har
    obtain⟨l,f',tmps,assign,body,hu,hy,hro⟩:=har w m _ uf hS hargs hv
    subst hu
    have e:(do let d ← resolve a.eval c o.type;invoke d.target d.args:Sem Next).run P w=.ok (.round l f' tmps assign body) w:=by
     simp [resolve,hc,haf,Deferred.ofValue,invoke,hy]
    rw [e,Oper.uponIn_round]
    refine⟨FW.depth,RoundIn.mono (hro (nn - 1)) fun e w' hR=>?_⟩
    cases e with
    | returned v =>
     obtain⟨m',av,K',h1,h2,h3,h4⟩:=hR
     simp only [fV_eq] at h4
     exact hk w' m' av K' v h1 h2 h3 h4
    | panicked ch =>
     obtain⟨m',av,u,K',rfl,h1,h2,h3,h4⟩:=hR
     exact hpn w' m' av K' u h1 h2 h3 h4
    | outgrown=>exact hR.elim
   cases hf with
   | p v u hv =>
    cases hv with
    | fn g =>
     simp only [aCallV] at h
     have e:(do let d ← resolve a.eval c o.type;invoke d.target d.args:Sem Next).run P w=.ok (.enter g (c.args.map a.eval)) w:=by
      simp [resolve,hc,haf,Deferred.ofValue,invoke,callFunc_run (entr _ _ h)]
     rw [e]
     exact key g _ _ hargs h
    | _=>exact h.elim
   | fn g first cap A B hA hB h1 h2 =>
    simp only [aCallV,fVL_eq,catL_eq] at h
    have e:(do let d ← resolve a.eval c o.type;invoke d.target d.args:Sem Next).run P w=.ok (.enter g (A++c.args.map a.eval++B)) w:=by
     simp [resolve,hc,haf,Deferred.ofValue,invoke,callFunc_run (entr _ _ h)]
    rw [e]
    exact key g _ _ ((VL.append ⟨hA,h1⟩ hargs).append ⟨hB,h2⟩) h
   | yld r sz cap hL=>exact yl r (.yld r sz cap hL) h
   | yldOld r b hL=>exact yl r (.yldOld r b hL) h
   | _=>exact h.elim
 | _=>rw [hop] at h;exact h.elim
variable {we:World} {me:Mp} {N kb:Nat} {D0:List Deferred} {bm:Bool}
inductive Mk (bm:Bool) (we:World) (D0:List Deferred) (w:World) (m:Mp):List Deferred→Prop where
 | base:Mk bm we D0 w m D0
 | mark (hb:bm=true) (D:Nat) (ds:List Deferred) (h1:we.heap.size≤D) (h2:w.heap[D]?=some (.deferred (some []))) (h3:¬ m.I D) (h4:∀ r,(m.L r).isLive→m.ρ r≠D)
   (h5:∀ d∈ds,d.target≠.collected D) (h:Mk bm we D0 w m ds):Mk bm we D0 w m ({ target:=.collected D,args:=#[] }::ds)
theorem Mk.mono {w w':World} {m m':Mp} (t:Tr w m w' m') {ds:List Deferred} (h:Mk bm we D0 w m ds):Mk bm we D0 w' m' ds:=by
 induction h with
 | base=>exact .base
 | mark hb D ds h1 h2 h3 h4 h5 _ ih =>
  have hlt:D<w.heap.size:=(Array.getElem?_eq_some_iff.1 h2).1
  refine .mark hb D ds h1 ((t.out D hlt h4).trans h2) (fun hI=>?_) (fun r hr e=>?_) h5 ih
  ·rcases t.newI D hI with h|⟨r,hr,e⟩|h
   ·exact h3 h
   ·exact h4 r hr e
   ·omega
  ·rcases t.newρ r hr with ⟨hr',e'⟩|h
   ·exact h4 r hr' (e'▸e)
   ·omega
theorem Mk.sub {w:World} {m m':Mp} (t:m.Sub m') {ds:List Deferred} (h:Mk bm we D0 w m ds):Mk bm we D0 w m' ds:=by
 induction h with
 | base=>exact .base
 | mark hb D ds h1 h2 h3 h4 h5 _ ih =>
  refine .mark hb D ds h1 h2 (fun hI=>?_) (fun r hr e=>?_) h5 ih
  ·rcases t.1 D hI with h|⟨r,hr,e⟩
   ·exact h3 h
   ·exact h4 r hr e
  ·exact h4 r (t.2 r hr).1 ((t.2 r hr).2▸e)
def Rel (bm:Bool) (N:Nat) (we:World) (me:Mp) (D0:List Deferred) (Q:Ex→AS→Prop):Exit→Act→World→Prop
 | .normal,a,w=>a.tmps.size=N∧∃ m s,Mk bm we D0 w m a.defers∧Tr we me w m∧St w m (hp s.K)∧EnvOk w m s.t a.tmps∧Q .norm s
 | .exit n,a,w=>a.tmps.size=N∧∃ m s,Mk bm we D0 w m a.defers∧Tr we me w m∧St w m (hp s.K)∧EnvOk w m s.t a.tmps∧Q (.exit n) s
 | .ret,a,w=>a.tmps.size=N∧∃ m s,Mk bm we D0 w m a.defers∧Tr we me w m∧St w m (hp s.K)∧EnvOk w m s.t a.tmps∧Q .ret s
 | .panic ch,a,w=>a.tmps.size=N∧∃ m s v u,Mk bm we D0 w m a.defers∧ch=[{ v:=u,recovered:=false }]∧Tr we me w m∧St w m (hp s.K)∧EnvOk w m s.t a.tmps∧V w m v u∧Q (.pan v) s
 | .goto _,_,_=>False
 | .outgrown,_,_=>False
theorem put_size (a:Act) (d:Option Nat) (u:Value):(a.put d u).tmps.size=a.tmps.size:=by
 cases d<;>simp [Act.put]
theorem put_defers (a:Act) (d:Option Nat) (u:Value):(a.put d u).defers=a.defers:=by
 cases d<;>rfl
theorem aop_semAt {o:Oper} {h':List (Nat×AV)} (h:aop T call o h' K k kp):Oper.semAt ro a.eval o=execOp a.eval o :=
 Oper.semAt_eq ro a.eval o fun c hc=>by unfold aop at h;rw [hc] at h;exact h
theorem opShrink_ok (hT:TabOk P T) (hS:St w m (hp K)) {ty r ver off n:Nat} {hi:AV} {u v:Value} (hx:V w m (.slr r ver off n) u) (hh:V w m hi v)
  (h:opShrink T K k ty r ver off n hi):RunOk P w m (Instr.sliceAt ty u none (some v) none) k:=by
 unfold opShrink at h
 cases hg:T.t.get ty with
 | none=>rw [hg] at h;exact h.elim
 | some ti =>
  rw [hg] at h
  simp only at h
  obtain⟨i,d,z,hi0,hu,hsz,_,hut,_⟩:=hT.t ty ti hg
  cases hU:ti.u with
  | slice e =>
   rw [hU] at h hut
   simp only [utOk] at hut
   subst hut
   simp only at h
   cases hge:T.t.get e with
   | none=>rw [hge] at h;exact h.elim
   | some ei =>
    rw [hge] at h
    simp only at h
    obtain⟨i',d',z',hie,hu',hsz',_⟩:=hT.t e ei hge
    cases hi with
    | p pv =>
     cases pv with
     | int q hv =>
      simp only at h
      cases off with
      | succ _=>exact h.elim
      | zero =>
       simp only at h
       cases hn':nth K r with
       | none=>rw [hn'] at h;exact h.elim
       | some b =>
        rw [hn'] at h
        have hb:=hS.blk r
        rw [hp_nth hn'] at hb
        cases b with
        | arr et sz' ver' n' f =>
         simp only [fL_eq] at h
         obtain⟨⟨rfl,hnn,h0,h1,h3⟩,h⟩:=h
         subst hnn
         cases hx with
         | slr _ _ _ _ N sz cap hL hN =>
          rcases hb with ⟨hb,_⟩|⟨cap',c,hl',hcap,hmax,h2,h4,h5⟩
          ·rw [hL] at hb;simp at hb
          rw [hL] at hl'
          injection hl' with _ e2 e3 e4
          subst e2 e3 e4
          have hlive:(m.L r).isLive:=by rw [hL];trivial
          have hr:=sliceBounds_run (P:=P) (w:=w) (m:=m) true N (cap - 0) (by omega) (lo:=none) (lo':=none) (hi:=some (.p (.int q hv))) (hi':=some v) trivial hh (l:=0) (h:=hv) rfl rfl (Int.le_refl _) h0 (by omega)
          have hrun:(Instr.sliceAt ty (.slice (some ⟨m.ρ r,0*sz,none⟩) N (cap - 0)) none (some v) none).run P w=.ok (.slice (some ⟨m.ρ r,0*sz,none⟩) hv.toNat (cap - 0)) w:=by
           have hc0:¬ cap=0:=by omega
           rw [Nat.sub_zero] at hr ⊢
           simp [Instr.sliceAt,Instr.slice,run_underlying hu,hr,sizeOf,typeInfo,hie,addr_add,hc0]
          have hst:(m.L r).step (.live (ver+1) hv.toNat sz cap) (m.ρ r=m.ρ r):=by
           rw [hL];exact .inr (.inr ⟨_,_,_,_,rfl,.inl (Nat.lt_succ_self _)⟩)
          have hgr:w.grownBy w (some (m.ρ r)):=⟨rfl,rfl,rfl,Nat.le_refl _,fun _ _ _=>rfl⟩
          have hT2:=Tr.grow hS r (m.ρ r) (.live (ver+1) hv.toNat sz cap) hlive hgr hst (.inl rfl)
          have hS2:=hS.grow r (m.ρ r) (.live (ver+1) hv.toNat sz cap) hlive hgr hst (.inl rfl) (hS.lt r hlive) (.arr et sz (ver+1) hv.toNat f)
           (.inr ⟨cap,c,rfl,by omega,hmax,h2,h4,fun i hi=>⟨(h5 i (by omega)).1,fun j hj=>by
            obtain⟨u,hu1,hu2⟩:=(h5 i (by omega)).2 j hj
            exact⟨u,hu1,hu2.mono hT2⟩⟩⟩)
          rw [← hp_set K r _ _ hn'] at hS2
          refine⟨_,w,_,_,_,hrun,hT2,hS2,?_,h⟩
          have:=V.slr (w:=w) (m:=m.set r (m.ρ r) (.live (ver+1) hv.toNat sz cap)) r (ver+1) 0 hv.toNat hv.toNat sz cap (by simp [Mp.set]) (Nat.zero_add _)
          simpa [Mp.set] using this
         | slrNil _ _ _ hL=>exfalso;simp at h1;omega
         | slrEnd _ _ _ _ _ _ hL=>exfalso;simp at h1;omega
         | slrOld _ _ _ _ ad c hold =>
          exfalso
          rcases hb with ⟨hb,h00⟩|⟨cap',c,hl',_⟩
          ·rw [hb] at hold;simp [Inf.old] at hold
          ·rw [hl'] at hold;simp [Inf.old] at hold
        | _=>exact h.elim
     | _=>exact h.elim
    | _=>exact h.elim
  | _=>rw [hU] at h;exact h.elim
theorem aopX_semAt {o:Oper} {h':List (Nat×AV)} (h:aopX T call o h' K k kp):Oper.semAt ro a.eval o=execOp a.eval o :=
 Oper.semAt_eq ro a.eval o fun c hc=>by
  unfold aopX at h
  rw [hc] at h
  simp only at h
  unfold aop at h
  rw [hc] at h
  exact h
theorem aopX_ok (hT:TabOk P T) (hcall:CallOk P call) {o:Oper} (hS:St w m (hp K)) (hE:EnvOk w m t a.tmps)
  (hk:∀ w' m' v K' u,Tr w m w' m'→St w' m' (hp K')→V w' m' v u→k v K'→next (a.put o.dst u) w')
  (hpn:∀ w' m' v K' u,Tr w m w' m'→St w' m' (hp K')→V w' m' v u→kp v K'→Q (.panic [{ v:=u,recovered:=false }]) a w')
  (h:aopX T call o t K k kp):o.uponIn (FW ro) nn P a next Q ((execOp a.eval o).run P w):=by
 unfold aopX at h
 split at h
 ·rename_i ty x hi hop
  split at h
  ·rename_i r ver off n hx
   unfold execOp
   rw [hop]
   have h1:=hE.ev x
   rw [hx] at h1
   exact upon_val hk (opShrink_ok hT hS h1 (hE.ev hi) h)
  ·exact aop_ok hT hcall hS hE hk hpn h
 ·exact aop_ok hT hcall hS hE hk hpn h
theorem aops_ok (hT:TabOk P T) (hcall:CallOk P call) {ops:Array Oper} {Q:Ex→AS→Prop} (l:List Oper):∀ (t:List (Nat×AV)) (K:List ABlk),aops T call N ops.toList l t K Q →
  ∀ (w:World) (m:Mp) (a:Act),Tr we me w m→St w m (hp K)→EnvOk w m t a.tmps→a.tmps.size=N→Mk bm we D0 w m a.defers→wpListIn (FW ro) nn P ops (Rel bm N we me D0 Q) l a w:=by
 induction l with
 | nil=>intro t K h w m a hTr hS hE hN hd;exact⟨hN,m,⟨t,K⟩,hd,hTr,hS,hE,h⟩
 | cons o rest ih =>
  intro t K h w m a hTr hS hE hN hd
  rw [aops_cons] at h
  have hbd:(∀ x,o.dst=some x→x<a.tmps.size)∧want ops.toList t o.guard
    (fun t=>aopX T call o t K (fun v K'=>aops T call N ops.toList rest (put t o.dst v) K' Q) (fun v K'=>Q (.pan v) ⟨t,K'⟩))
    (fun t=>aops T call N ops.toList rest (put t o.dst (.tup [])) K Q):=by
   unfold bound at h
   cases hd':o.dst with
   | none=>rw [hd'] at h;exact⟨fun x hx=>by simp at hx,h⟩
   | some d =>
    rw [hd'] at h
    simp only at h
    cases hb:Nat.blt d N with
    | false=>rw [hb] at h;exact h.elim
    | true =>
     rw [hb] at h
     refine⟨fun x hx=>?_,h⟩
     injection hx with hx
     subst hx
     rw [hN]
     exact Nat.le_of_ble_eq_true hb
  obtain⟨hb,h⟩:=hbd
  have yes:∀ t,EnvOk w m t a.tmps→aopX T call o t K (fun v K'=>aops T call N ops.toList rest (put t o.dst v) K' Q) (fun v K'=>Q (.pan v) ⟨t,K'⟩)→Region.wanted o (yielded ops a.tmps)=true →
    wpListIn (FW ro) nn P ops (Rel bm N we me D0 Q) (o::rest) a w:=by
   intro t hE h hw
   unfold wpListIn
   rw [if_pos hw]
   refine⟨fun _ _=>trivial,?_⟩
   rw [aopX_semAt h]
   refine aopX_ok hT hcall hS hE (fun w' m' v K' u h1 h2 h3 h4=>?_) (fun w' m' v K' u h1 h2 h3 h4=>?_) h
   ·exact ih _ _ h4 w' m' _ (hTr.trans h1) h2 ((hE.mono h1).put hb h3) (by rw [put_size];exact hN) (by rw [put_defers];exact hd.mono h1)
   ·exact⟨hN,m',⟨t,K'⟩,v,u,hd.mono h1,rfl,hTr.trans h1,h2,hE.mono h1,h3,h4⟩
  have no:∀ t,EnvOk w m t a.tmps→aops T call N ops.toList rest (put t o.dst (.tup [])) K Q→Region.wanted o (yielded ops a.tmps)=false→wpListIn (FW ro) nn P ops (Rel bm N we me D0 Q) (o::rest) a w:=by
   intro t hE h hw
   unfold wpListIn
   rw [if_neg (by simp [hw])]
   exact⟨fun _ _=>trivial,ih _ _ h w m _ hTr hS (hE.put hb (.tup [] #[] rfl fun j hj=>by simp at hj)) (by rw [put_size];exact hN) (by rw [put_defers];exact hd)⟩
  unfold want at h
  cases hg:o.guard with
  | none =>
   rw [hg] at h
   exact yes t hE h (by simp [Region.wanted,hg])
  | some g =>
   obtain⟨j,wn⟩:=g
   rw [hg] at h
   simp only at h
   cases hj:nth ops.toList j with
   | none=>rw [hj] at h;exact h.elim
   | some oj =>
    rw [hj] at h
    simp only at h
    cases hdj:oj.dst with
    | none=>rw [hdj] at h;exact h.elim
    | some d =>
     rw [hdj] at h
     simp only at h
     split at h
     case h_3=>exact h.elim
     case h_2 =>
      rename_i hb'
      refine no _ hE h ?_
      have h1:ops[j]?=some oj:=by rw [nth_eq] at hj;simpa using hj
      have hu:=hE d
      rw [hb'] at hu
      have hu2:a.tmps.getD d undef=.tuple #[]:=by
       generalize a.tmps.getD d undef=u at hu
       cases hu with
       | tup _ A hA _ =>
        have:A=#[]:=by apply Array.eq_empty_of_size_eq_zero;simpa using hA.symm
        rw [this]
      have hy:yielded ops a.tmps j=none:=by
       simp only [yielded,h1,Option.bind_some,hdj]
       rw [Array.getD_eq_getD_getElem?] at hu2
       cases h3:a.tmps[d]? with
       | none=>rfl
       | some u=>rw [h3] at hu2;simp at hu2;rw [hu2]
      simp [Region.wanted,hg,hy]
     rename_i b hb'
     have hy:yielded ops a.tmps j=some b:=by
      have h1:ops[j]?=some oj:=by rw [nth_eq] at hj;simpa using hj
      simp only [yielded,h1,Option.bind_some,hdj,hE.bool hb']
     have hE':=hE.know hb'
     have hw:Region.wanted o (yielded ops a.tmps)=(b==wn):=by
      simp only [Region.wanted,hg,hy]
      cases b<;>cases wn<;>rfl
     cases wn with
     | true =>
      cases b with
      | true=>exact yes _ hE' h (by rw [hw];rfl)
      | false=>exact no _ hE' h (by rw [hw];rfl)
     | false =>
      cases b with
      | true=>exact no _ hE' h (by rw [hw];rfl)
      | false=>exact yes _ hE' h (by rw [hw];rfl)
end
end Go.AE
