/-
  On the way to flowTells_card: part 5 of 11.
-/
import Derived.Test.YtojjkleplnijaaaGreatDoorPk1
import Derived.Test.YtojjkleplnijaaaGreatDoorPk4
set_option linter.unusedVariables false
set_option linter.unusedSimpArgs false
namespace Go.Proofs.YtojjkleplnijaaaGreatDoor
open Go.AE Go.Ru
set_option maxRecDepth 100000
theorem frameS {G:AG} (hG:GOk Tryz.prog G) (n:Nat) {f:FuncId} {args:List AV} {K0 X:List ABlk} {k:AO→List ABlk→Prop} (hcl:AV.cls K0.length args=true) (hK:clK K0.length K0)
  (h:∀ Q:AO→List ABlk→Prop,(∀ v K',v.cl K0.length=true→K0.length≤K'.length→takeN K' K0.length=K0→k (.ret v) (K0++X)→Q (.ret v) K')→acall1 T0 G n f args K0 Q):ACalls Tryz.prog f args (K0++X) k:=by
 refine (ACalls.frame (K0:=K0) (X:=X) (k:=fun ao K1=>k ao (K1++X)) hcl (fun r h=>clK.hp hK r) (call_ok hG n f args K0 _ (h _ ?_))).mono fun ao K ⟨K1,h1,h2⟩=>by subst h1;exact h2
 intro v K' h1 h2 h3 h4
 refine⟨h1,h2,fun r hr=>?_,?_⟩
 ·have e:=congrArg (fun L=>hp L r) h3
  simp only [hp_takeN,if_pos hr] at e
  rw [e];exact clK.hp hK r
 ·show k (.ret v) (takeN K' K0.length++X)
  rw [h3];exact h4
theorem frame0W {G:AG} (hG:GOk Tryz.prog G) (n:Nat) {f:FuncId} {args:List AV} {X:List ABlk} {k:AO→List ABlk→Prop} (hcl:AV.cls 0 args=true)
  (h:∀ Q:AO→List ABlk→Prop,(∀ v K' v' K2,Wk1 0 v K' v' K2→v'.cl 0=true→k (.ret v') X→Q (.ret v) K')→acall1 T0 G n f args [] Q):ACalls Tryz.prog f args X k:=by
 refine (ACalls.frame (K0:=[]) (X:=X) (k:=fun ao K1=>k ao (K1++X)) hcl (fun r h=>by simp at h)
  (ACalls.post (k:=fun ao K1=>∃ v v' K2,ao=.ret v∧Wk1 0 v K1 v' K2∧v'.cl 0=true∧k (.ret v') X) (call_ok hG n f args [] _ (h _ ?_)) ?_)).mono fun ao K ⟨K1,h1,h2⟩=>by subst h1;exact h2
 ·intro v K' v' K2 h1 h2 h3
  exact⟨v,v',K2,rfl,h1,h2,h3⟩
 ·rintro ao K1 ⟨v,v',K2,rfl,h1,h2,h3⟩
  refine⟨v',K2,h1,h2,by simp,fun r hr=>by simp at hr,?_⟩
  show k (.ret v') (takeN K2 0++X)
  rw [takeN_zero];exact h3
def cutK (s:Bs) (i:Nat):List ABlk:=[.box 9 [.p (.str s)],.box 3 [.p (.int .i64 i)]]
def cRow:AC:=fun args K k=>∃ (some s:Bs) (i:Nat) (ii:Int) (X:List ABlk),args=[.p (.str some),.ptr 1 0 1 0 0,.ptr 0 0 1 0 0]∧K=[.box 9 [.p (.str s)],.box 3 [.p (.int .i64 ii)]]++X∧ii=i∧i≤s.length∧s.length<1000000 ∧
 k (.ret (.p (.int .i64 ((i+runS some (s.drop i):Nat):Int)))) (cutK s i++X)
theorem runS_cons (l:Bs) (c:UInt8) (r:Bs):runS l (c::r)=if inB l c then runS l r+1 else 0:=by
 simp only [runS,List.takeWhile_cons]
 split<;>simp
theorem row_ok:COk 177 cRow:=by
 rintro args K k ⟨m,s,i,_,X,rfl,rfl,rfl,hi,hs,hk⟩
 refine frameS (K0:=cutK s i) gL_ok 19 rfl ⟨rfl,rfl,trivial⟩ fun Q hr=>?_
 conv=>whnf
 refine loop_by (ι:=Nat) (fun j=>⟨[(0,.p (.str m)),(2,.ptr 0 0 1 0 0),(5,.p (.int .i64 j))],cutK s i⟩)
  (fun j=>j≤s.length∧i+runS m (s.drop i)=j+runS m (s.drop j)) (fun j=>s.length - j) i ⟨AV.le_refl _,AV.le_refl _,AV.le_refl _,trivial⟩ (lesK.refl _) ⟨hi,rfl⟩ ?_
 intro Y hle j ⟨hj,he⟩ ih
 have hd1:decide ((j:Int)<(s.length:Int))=decide (j<s.length):=by
  by_cases h:j<s.length
  ·rw [decide_eq_true h,decide_eq_true (by omega)]
  ·rw [decide_eq_false h,decide_eq_false (by omega)]
 conv=>whnf
 refine two_intro (fun h=>?_) (fun h=>?_)
 ·rw [hd1] at h
  have h:=of_decide_eq_true h
  have hs2:s.drop j=s[j]::s.drop (j+1):=List.drop_eq_getElem_cons h
  rw [hs2,runS_cons] at he
  conv=>whnf
  refine⟨⟨by omega,by omega⟩,?_⟩
  conv=>whnf
  refine⟨_,_,rfl,?_⟩
  conv=>whnf
  have hb:decide (Lib.indexByte m ((byteAt s (Int.toNat j)).toNat.toUInt8)≥0)=inB m s[j]:=by
   rw [u8b,Int.toNat_natCast,List.getD_eq_getElem?_getD,List.getElem?_eq_getElem h];rfl
  refine two_intro (fun h5=>?_) (fun h5=>?_)
  ·rw [hb] at h5
   rw [if_pos h5] at he
   conv=>whnf
   refine hle _ _ (Le.env ?_ (lesK.refl _)) (ih (j+1) (by omega) ⟨by omega,by omega⟩)
   refine⟨AV.le_refl _,AV.le_refl _,AV.le_of_eq ?_,trivial⟩
   show AV.p (.int .i64 (IntKind.i64.wrap ((j:Int)+1)))=.p (.int .i64 ((j+1:Nat):Int))
   rw [w64 (by omega)];rfl
  ·rw [hb] at h5
   rw [if_neg (by rw [h5];exact Bool.false_ne_true)] at he
   conv=>whnf
   rw [he] at hk
   exact hr _ _ rfl (Nat.le_refl _) rfl hk
 ·rw [hd1] at h
  have h:=of_decide_eq_false h
  obtain rfl:j=s.length:=by omega
  rw [List.drop_length] at he
  conv=>whnf
  rw [he] at hk
  exact hr _ _ rfl (Nat.le_refl _) rfl hk
def tokF (l:List Tok) (j:Nat):List PV:=encTok (l.getD j ⟨.name,0,0,[]⟩)
def tokA (l:List Tok):ABlk:=.arr 131 4 0 l.length fun j=>pvs (tokF l j)
def cutV (e:Int):CR→AV
 | .ok l=>.tup [.p (.sl 4 (l.length+1) (encs e l)),.p (.int .i64 0),.p (.int .i64 0)]
 | .bad a=>.tup [.p .nils,.p (.int .i64 (a:Nat)),.p (.int .i64 2)]
def cCutT:AC:=fun args K k=>∃ s,args=[.p (.str s)]∧s.length<1000000 ∧
 (s.length>20000→k (.ret (.tup [.p .nils,.p (.int .i64 0),.p (.int .i64 7)])) K)∧(s.length≤20000→k (.ret (cutV s.length (cutT s))) K)
structure TC where
 l:List Tok
 i:Nat
 n:Nat
def CR.app (l:List Tok):CR→CR
 | .ok l'=>.ok (l++l')
 | .bad a=>.bad a
def gT:AG:=gput 177 cRow (gput 178 cWordT (gput 179 cSignT gI))
theorem gT_ok:GOk Tryz.prog gT:=gput_ok row_ok (gput_ok wordT_ok (gput_ok signT_ok gI_ok))
theorem encs_lt (e:Int) (l:List Tok) (j:Nat) (h:j<l.length):encs e l j=tokF l j:=by
 induction l generalizing j with
 | nil=>simp at h
 | cons t r ih =>
  cases j with
  | zero=>rfl
  | succ j=>exact ih j (by simpa using h)
theorem encs_at (e:Int) (l:List Tok):encs e l l.length=[.int .i64 5,.int .i64 0,.int .i64 e,.str []]:=by
 induction l with
 | nil=>rfl
 | cons t r ih=>exact ih
theorem enc_all (e:Int) (l:List Tok) (f:Nat→List AV) (hf:f 0=pvs [.int .i64 5,.int .i64 0,.int .i64 e,.str []]):∀ j,j<l.length+1→catF l.length (fun j=>pvs (tokF l j)) f j=pvs (encs e l j):=fun j hj=>by
 by_cases h:j<l.length
 ·rw [catF_lt h,encs_lt e l j h]
 ·obtain rfl:j=l.length:=by omega
  rw [catF_ge (Nat.le_refl _),Nat.sub_self,hf,encs_at]
theorem tokA_snoc (l:List Tok) (x:Tok) (f:Nat→List AV) (hf:f 0=pvs (encTok x)):(ABlk.arr 131 4 0 (l.length+1) (catF l.length (fun i=>pvs (tokF l i)) f)).le (tokA (l++[x])):=by
 refine ABlk.arr_eq (by simp) fun i hi=>?_
 by_cases h:i<l.length
 ·rw [catF_lt h]
  simp [tokF,List.getD_eq_getElem?_getD,List.getElem?_append_left h]
 ·obtain rfl:i=l.length:=by omega
  rw [catF_ge (Nat.le_refl _),Nat.sub_self,hf]
  simp [tokF,List.getD_eq_getElem?_getD]
theorem tok_cl (l:List Tok) (x:Tok) (f:Nat→List AV) (n:Nat) (hf:f 0=pvs (encTok x)):(ABlk.arr 131 4 0 (l.length+1) (catF l.length (fun i=>pvs (tokF l i)) f)).cl n:=fun i hi=>by
 by_cases h:i<l.length
 ·rw [catF_lt h];rfl
 ·obtain rfl:i=l.length:=by omega
  rw [catF_ge (Nat.le_refl _),Nat.sub_self,hf];rfl
theorem slr_len (l:List Tok) (x:Tok):AV.slr 2 0 0 (l.length+1)=AV.slr 2 0 0 (l++[x]).length:=by simp
theorem app_cons (l:List Tok) (t:Tok) (r:CR):CR.app l (r.cons t)=CR.app (l++[t]) r:=by
 cases r with
 | ok l'=>simp [CR.cons,CR.app]
 | bad a=>rfl
theorem cutT_ok:COk 128 cCutT:=by
 rintro args K k ⟨s,rfl,hs,hk1,hk2⟩
 refine frame0W gT_ok 19 rfl fun Q hr=>?_
 have hd1:decide ((s.length:Int)>20000)=decide (s.length>20000):=by
  by_cases h:s.length>20000
  ·rw [decide_eq_true h,decide_eq_true (by omega)]
  ·rw [decide_eq_false h,decide_eq_false (by omega)]
 conv=>whnf
 refine two_intro (fun h=>?_) (fun h=>?_)
 ·rw [hd1] at h
  have h:=of_decide_eq_true h
  conv=>whnf
  exact hr _ _ _ _ (Wk1.refl _ _ _) rfl (hk1 h)
 rw [hd1] at h
 have h:=of_decide_eq_false h
 have hk:=hk2 (by omega)
 clear hk1 hk2
 conv=>whnf
 refine loop_nil (ι:=TC) 131 4 (fun j=>pvs (tokF [] j)) (fun i=>⟨[(1,.ptr 0 0 1 0 0),(6,.ptr 1 0 1 0 0),(7,.fn 177 [] [.ptr 1 0 1 0 0,.ptr 0 0 1 0 0]),(5,.slr 2 0 0 i.l.length)],cutK s i.i++[tokA i.l]⟩)
  (fun i=>i.i≤s.length∧s.length≤i.i+i.n∧i.l.length≤i.i∧CR.app i.l (cutS i.n (s.drop i.i) i.i)=cutT s) (fun i=>i.n) ⟨[],0,s.length⟩ (cutK s 0)
  rfl ⟨.inl (AV.le_refl _),.inl (AV.le_refl _),.inl (AV.le_refl _),.inr ⟨rfl,rfl⟩,trivial⟩ (nswK.refl _ _) rfl ⟨Nat.zero_le _,by simp,Nat.le_refl _,?_⟩ ?_
 ·show CR.app [] (cutS s.length s 0)=cutT s
  unfold cutT
  cases cutS s.length s 0<;>rfl
 rintro Y hle ⟨l,i,n⟩ ⟨hi,hn,hl,he⟩ ih
 simp only at hi hn hl he
 have hd2:decide ((i:Int)<(s.length:Int))=decide (i<s.length):=by
  by_cases h:i<s.length
  ·rw [decide_eq_true h,decide_eq_true (by omega)]
  ·rw [decide_eq_false h,decide_eq_false (by omega)]
 conv=>whnf
 refine two_intro (fun h=>?_) (fun h=>?_)
 ·rw [hd2] at h
  have h:=of_decide_eq_true h
  cases n with
  | zero=>omega
  | succ n =>
  have hs2:s.drop i=s[i]::s.drop (i+1):=List.drop_eq_getElem_cons h
  have hrl:∀ m,runS m (s.drop i)≤s.length - i:=fun m=>by
   unfold runS
   refine Nat.le_trans (List.takeWhile_sublist _).length_le ?_
   simp
  conv=>whnf
  refine⟨_,_,_,_,_,rfl,rfl,rfl,hi,hs,?_⟩
  conv=>whnf
  refine⟨_,_,_,_,_,rfl,rfl,rfl,hi,hs,?_⟩
  conv=>whnf
  repeat ((refine And.intro ?_ ?_);(focus ((conv=>whnf);done));conv=>whnf)
  refine two_intro (fun h2=>?_) (fun h2=>?_)
  ·have h2:0<runS blanksT (s.drop i):=by
    have:=of_decide_eq_true h2
    have:((i+runS blanksT (s.drop i):Nat):Int)>(i:Int):=this
    omega
   have hb:=hrl blanksT
   conv=>whnf
   refine⟨_,_,_,_,_,rfl,rfl,rfl,hi,hs,?_⟩
   conv=>whnf
   refine hle _ _ (Le.env ?_ ?_) (ih ⟨l,i+runS blanksT (s.drop i),n⟩ (Nat.lt_succ_self _) ⟨?_,?_,?_,?_⟩)
   ·exact⟨AV.le_refl _,AV.le_refl _,AV.le_refl _,AV.le_refl _,trivial⟩
   ·exact⟨ABlk.le_refl _,ABlk.le_refl _,ABlk.le_refl _,trivial⟩
   ·simp only;omega
   ·simp only;omega
   ·simp only;omega
   ·rw [← he]
    simp only [cutS,hs2]
    rw [hs2] at h2
    rw [if_pos h2,← hs2,List.drop_drop]
  ·have h2:¬ 0<runS blanksT (s.drop i):=by
    have:=of_decide_eq_false h2
    have:¬ ((i+runS blanksT (s.drop i):Nat):Int)>(i:Int):=this
    omega
   conv=>whnf
   refine⟨(⟨by omega,by omega⟩:(0:Int)≤(i:Int)∧(i:Int)<(s.length:Int)),?_⟩
   conv=>whnf
   have hby:byteAt s (Int.toNat i)=(s[i].toNat:Int):=by
    unfold byteAt
    rw [Int.toNat_natCast,List.getD_eq_getElem?_getD,List.getElem?_eq_getElem h];rfl
   simp only [cutS,hs2] at he
   rw [hs2] at h2
   rw [if_neg h2] at he
   refine two_intro (fun h3=>?_) (fun h3=>?_)
   ·have h3:s[i]=35:=by
     have h3:(byteAt s (Int.toNat i)==35)=true:=h3
     rw [hby] at h3
     have:=eq_of_beq h3
     exact UInt8.toNat_inj.1 (by show s[i].toNat=35;omega)
    rw [if_pos h3,← hs2] at he
    conv=>whnf
    refine loop_by (ι:=Nat) (fun j=>⟨[(1,.ptr 0 0 1 0 0),(6,.ptr 1 0 1 0 0),(7,.fn 177 [] [.ptr 1 0 1 0 0,.ptr 0 0 1 0 0]),(5,.slr 2 0 0 l.length)],cutK s j++[tokA l]⟩)
     (fun j=>i≤j∧j≤s.length∧(s.drop i).dropWhile (fun c=>!(c==10))=(s.drop j).dropWhile (fun c=>!(c==10))∧i+((s.drop i).takeWhile (fun c=>!(c==10))).length=j+((s.drop j).takeWhile (fun c=>!(c==10))).length) (fun j=>s.length - j) i
     ?_ ?_ ⟨Nat.le_refl _,hi,rfl,rfl⟩ ?_
    ·exact⟨AV.le_refl _,AV.le_refl _,AV.le_refl _,AV.le_refl _,trivial⟩
    ·exact⟨ABlk.le_refl _,ABlk.le_refl _,ABlk.le_refl _,trivial⟩
    intro Z hle2 j ⟨hij,hj,hdw,htw⟩ ih2
    have hd3:decide ((j:Int)<(s.length:Int))=decide (j<s.length):=by
     by_cases h:j<s.length
     ·rw [decide_eq_true h,decide_eq_true (by omega)]
     ·rw [decide_eq_false h,decide_eq_false (by omega)]
    have fin:∀ j,i<j→j≤s.length→(s.drop i).dropWhile (fun c=>!(c==10))=s.drop j→i+((s.drop i).takeWhile (fun c=>!(c==10))).length=j→(TC.mk l j n).i≤s.length∧s.length≤(TC.mk l j n).i+(TC.mk l j n).n∧(TC.mk l j n).l.length≤(TC.mk l j n).i∧CR.app (TC.mk l j n).l (cutS (TC.mk l j n).n (s.drop (TC.mk l j n).i) (TC.mk l j n).i)=cutT s:=fun j h1 h2 h3 h4=>by
     refine⟨h2,?_,?_,?_⟩
     ·simp only;omega
     ·simp only;omega
     ·rw [← he,h3,h4]
    conv=>whnf
    refine two_intro (fun h4=>?_) (fun h4=>?_)
    ·rw [hd3] at h4
     have h4:=of_decide_eq_true h4
     have hsj:s.drop j=s[j]::s.drop (j+1):=List.drop_eq_getElem_cons h4
     rw [hsj] at hdw htw
     simp only [List.dropWhile_cons,List.takeWhile_cons] at hdw htw
     conv=>whnf
     refine⟨⟨by omega,by omega⟩,?_⟩
     conv=>whnf
     have hby2:byteAt s (Int.toNat j)=(s[j].toNat:Int):=by
      unfold byteAt
      rw [Int.toNat_natCast,List.getD_eq_getElem?_getD,List.getElem?_eq_getElem h4];rfl
     have hb:(byteAt s (Int.toNat j) != 10)=!(s[j]==10):=by
      rw [hby2]
      show (!((s[j].toNat:Int)==10))=_
      congr 1
      rw [Bool.eq_iff_iff]
      simp only [beq_iff_eq]
      constructor
      ·intro h
       exact UInt8.toNat_inj.1 (by show s[j].toNat=10;omega)
      ·intro h;rw [h];rfl
     refine two_intro (fun h5=>?_) (fun h5=>?_)
     ·have h5:(!(s[j]==10))=true:=by rw [← hb];exact h5
      rw [if_pos h5] at hdw htw
      conv=>whnf
      refine hle2 _ _ (Le.env ?_ ?_) (ih2 (j+1) (by omega) ⟨by omega,by omega,hdw,?_⟩)
      ·exact⟨AV.le_refl _,AV.le_refl _,AV.le_refl _,AV.le_refl _,trivial⟩
      ·refine⟨ABlk.le_refl _,ABlk.le_of_eq ?_,ABlk.le_refl _,trivial⟩
       show ABlk.box 3 [.p (.int .i64 (IntKind.i64.wrap ((j:Int)+1)))]=_
       rw [w64 (by omega)];rfl
      ·simp only [List.length_cons] at htw;omega
     ·have h5:(!(s[j]==10))=false:=by rw [← hb];exact h5
      rw [if_neg (by rw [h5];exact Bool.false_ne_true)] at hdw htw
      have hij2:i<j:=by
       rcases Nat.lt_or_ge i j with h|h
       ·exact h
       ·exfalso
        have:i=j:=by omega
        subst this
        rw [h3] at h5;simp at h5
      conv=>whnf
      refine hle _ _ (Le.env ?_ ?_) (ih ⟨l,j,n⟩ (Nat.lt_succ_self _) (fin j hij2 hj (by rw [hdw,hsj]) (by simpa using htw)))
      ·exact⟨AV.le_refl _,AV.le_refl _,AV.le_refl _,AV.le_refl _,trivial⟩
      ·exact⟨ABlk.le_refl _,ABlk.le_refl _,ABlk.le_refl _,trivial⟩
    ·rw [hd3] at h4
     have h4:=of_decide_eq_false h4
     obtain rfl:j=s.length:=by omega
     conv=>whnf
     refine hle _ _ (Le.env ?_ ?_) (ih ⟨l,s.length,n⟩ (Nat.lt_succ_self _) (fin s.length h hj (by rw [hdw];simp) (by simpa using htw)))
     ·exact⟨AV.le_refl _,AV.le_refl _,AV.le_refl _,AV.le_refl _,trivial⟩
     ·exact⟨ABlk.le_refl _,ABlk.le_refl _,ABlk.le_refl _,trivial⟩
   have h3:¬ s[i]=35:=fun e=>by
    have h3:(byteAt s (Int.toNat i)==35)=false:=h3
    rw [hby,e] at h3
    simp at h3
   rw [if_neg h3,← hs2] at he
   conv=>whnf
   refine two_intro (fun h4=>?_) (fun h4=>?_)
   ·have h4:0<runS partsT (s.drop i):=by
     have:=of_decide_eq_true h4
     have:((i+runS partsT (s.drop i):Nat):Int)>(i:Int):=this
     omega
    rw [if_pos h4] at he
    conv=>whnf
    have hp:=hrl partsT
    refine⟨(⟨by omega,by omega,by omega⟩:(0:Int)≤(i:Int)∧(i:Int)≤((i+runS partsT (s.drop i):Nat):Int)∧((i+runS partsT (s.drop i):Nat):Int)≤(s.length:Int)),?_⟩
    conv=>whnf
    have hw:(s.take (Int.toNat ((i+runS partsT (s.drop i):Nat):Int))).drop (Int.toNat (i:Int))=(s.drop i).take (runS partsT (s.drop i)):=by
     rw [Int.toNat_natCast,Int.toNat_natCast,List.drop_take,Nat.add_sub_cancel_left]
    have hwl:((s.drop i).take (runS partsT (s.drop i))).length<1000000:=by
     simp only [List.length_take,List.length_drop];omega
    have hsb:(0:Int)≤(i:Int)∧(i:Int)≤((i+runS partsT (s.drop i):Nat):Int)∧((i+runS partsT (s.drop i):Nat):Int)≤(s.length:Int):=⟨by omega,by omega,by omega⟩
    refine⟨?_,?_⟩
    ·conv=>whnf
     refine⟨(s.drop i).take (runS partsT (s.drop i)),(i:Int),congrArg (fun w=>[AV.p (PV.str w),AV.p (PV.int .i64 (i:Int))]) hw,hwl,?_⟩
     cases hwp:wordP ((s.drop i).take (runS partsT (s.drop i))) with
     | none =>
      rw [hwp] at he
      have hct:cutT s=.bad i:=by rw [← he];rfl
      rw [hct] at hk
      conv=>whnf
      repeat ((refine And.intro ?_ ?_);(focus ((conv=>whnf);done));conv=>whnf)
      first|((refine⟨⟨hsb,rfl⟩,?_⟩);(conv=>whnf);repeat ((refine And.intro ?_ ?_);(focus ((conv=>whnf);done));conv=>whnf))|skip
      exact hr _ _ _ _ (Wk1.refl _ _ _) rfl hk
     | some q =>
      obtain⟨kd,v⟩:=q
      rw [hwp] at he
      simp only at he
      conv=>whnf
      repeat ((refine And.intro ?_ ?_);(focus ((conv=>whnf);done));conv=>whnf)
      first|((refine⟨⟨hsb,rfl⟩,?_⟩);(conv=>whnf);repeat ((refine And.intro ?_ ?_);(focus ((conv=>whnf);done));conv=>whnf))|skip
      refine⟨⟨rfl,rfl,rfl,allLt_ok ⟨trivial,rfl⟩⟩,?_⟩
      conv=>whnf
      refine⟨⟨rfl,rfl,rfl,rfl,?_,?_⟩,?_⟩
      ·show (l.length+1)*40≤140737488355328
       omega
      ·show l.length+1≤9223372036854775807
       omega
      conv=>whnf
      refine hle _ _ (Le.cutEnv 3 rfl rfl ⟨rfl,rfl,?_,trivial⟩ ?_ ?_) (ih ⟨l++[⟨kd,v,i,(s.drop i).take (runS partsT (s.drop i))⟩],i+runS partsT (s.drop i),n⟩ (Nat.lt_succ_self _) ⟨?_,?_,?_,?_⟩)
      ·exact tok_cl l ⟨kd,v,i,(s.drop i).take (runS partsT (s.drop i))⟩ _ 3 rfl
      ·exact⟨AV.le_refl _,AV.le_refl _,AV.le_refl _,AV.le_of_eq (slr_len _ _),trivial⟩
      ·exact⟨ABlk.le_refl _,ABlk.le_refl _,tokA_snoc l ⟨kd,v,i,(s.drop i).take (runS partsT (s.drop i))⟩ _ rfl,trivial⟩
      ·simp only;omega
      ·simp only;omega
      ·simp only [List.length_append,List.length_cons,List.length_nil];omega
      ·rw [← he,app_cons,List.drop_drop]
    ·conv=>whnf
     repeat ((refine And.intro ?_ ?_);(focus ((conv=>whnf);done));conv=>whnf)
     refine⟨⟨hsb,rfl⟩,?_⟩
     conv=>whnf
     repeat ((refine And.intro ?_ ?_);(focus ((conv=>whnf);done));conv=>whnf)
     refine⟨(s.drop i).take (runS partsT (s.drop i)),(i:Int),congrArg (fun w=>[AV.p (PV.str w),AV.p (PV.int .i64 (i:Int))]) hw,hwl,?_⟩
     cases hwp:wordP ((s.drop i).take (runS partsT (s.drop i))) with
     | none =>
      rw [hwp] at he
      have hct:cutT s=.bad i:=by rw [← he];rfl
      rw [hct] at hk
      conv=>whnf
      repeat ((refine And.intro ?_ ?_);(focus ((conv=>whnf);done));conv=>whnf)
      first|((refine⟨⟨hsb,rfl⟩,?_⟩);(conv=>whnf);repeat ((refine And.intro ?_ ?_);(focus ((conv=>whnf);done));conv=>whnf))|skip
      exact hr _ _ _ _ (Wk1.refl _ _ _) rfl hk
     | some q =>
      obtain⟨kd,v⟩:=q
      rw [hwp] at he
      simp only at he
      conv=>whnf
      repeat ((refine And.intro ?_ ?_);(focus ((conv=>whnf);done));conv=>whnf)
      first|((refine⟨⟨hsb,rfl⟩,?_⟩);(conv=>whnf);repeat ((refine And.intro ?_ ?_);(focus ((conv=>whnf);done));conv=>whnf))|skip
      refine⟨⟨rfl,rfl,rfl,allLt_ok ⟨trivial,rfl⟩⟩,?_⟩
      conv=>whnf
      refine⟨⟨rfl,rfl,rfl,rfl,?_,?_⟩,?_⟩
      ·show (l.length+1)*40≤140737488355328
       omega
      ·show l.length+1≤9223372036854775807
       omega
      conv=>whnf
      refine hle _ _ (Le.cutEnv 3 rfl rfl ⟨rfl,rfl,?_,trivial⟩ ?_ ?_) (ih ⟨l++[⟨kd,v,i,(s.drop i).take (runS partsT (s.drop i))⟩],i+runS partsT (s.drop i),n⟩ (Nat.lt_succ_self _) ⟨?_,?_,?_,?_⟩)
      ·exact tok_cl l ⟨kd,v,i,(s.drop i).take (runS partsT (s.drop i))⟩ _ 3 rfl
      ·exact⟨AV.le_refl _,AV.le_refl _,AV.le_refl _,AV.le_of_eq (slr_len _ _),trivial⟩
      ·exact⟨ABlk.le_refl _,ABlk.le_refl _,tokA_snoc l ⟨kd,v,i,(s.drop i).take (runS partsT (s.drop i))⟩ _ rfl,trivial⟩
      ·simp only;omega
      ·simp only;omega
      ·simp only [List.length_append,List.length_cons,List.length_nil];omega
      ·rw [← he,app_cons,List.drop_drop]
   ·have h4:¬ 0<runS partsT (s.drop i):=by
     have:=of_decide_eq_false h4
     have:¬ ((i+runS partsT (s.drop i):Nat):Int)>(i:Int):=this
     omega
    rw [if_neg h4] at he
    conv=>whnf
    refine⟨(⟨by omega,(by show (i:Int)≤(s.length:Int);omega),Int.le_refl _⟩:(0:Int)≤(i:Int)∧(i:Int)≤Int.ofNat s.length∧Int.ofNat s.length≤(s.length:Int)),?_⟩
    conv=>whnf
    have hw:(s.take (Int.toNat (Int.ofNat s.length))).drop (Int.toNat (i:Int))=s.drop i:=by
     have e1:Int.toNat (Int.ofNat s.length)=s.length:=rfl
     rw [e1,Int.toNat_natCast,List.take_length]
    refine⟨s.drop i,congrArg (fun w=>[AV.p (PV.str w)]) hw,?_,?_,?_⟩
    ·simp only [List.length_drop];omega
    ·simp only [List.length_drop];omega
    have hsl:signP (s.drop i)≤s.length - i:=by
     unfold signP
     split
     ·rename_i hpp
      simp only [pairP,Bool.and_eq_true,decide_eq_true_eq,List.length_drop] at hpp
      omega
     ·split<;>omega
    generalize hsg:signP (s.drop i)=m at he hsl ⊢
    conv=>whnf
    refine two_intro (fun h5=>?_) (fun h5=>?_)
    ·have h5:m=0:=by
      have h5:((m:Int)==0)=true:=h5
      have:=eq_of_beq h5
      omega
     subst h5
     have hct:cutT s=.bad i:=by rw [← he];rfl
     rw [hct] at hk
     conv=>whnf
     exact hr _ _ _ _ (Wk1.refl _ _ _) rfl hk
    ·cases m with
     | zero=>exact absurd h5 (by simp)
     | succ m =>
     simp only at he
     conv=>whnf
     refine⟨(⟨by omega,?_,?_⟩:(0:Int)≤(i:Int)∧(i:Int)≤IntKind.i64.wrap ((i:Int)+((m+1:Nat):Int))∧IntKind.i64.wrap ((i:Int)+((m+1:Nat):Int))≤(s.length:Int)),?_⟩
     ·rw [w64 (by omega)];omega
     ·rw [w64 (by omega)];omega
     conv=>whnf
     repeat ((refine And.intro ?_ ?_);(focus ((conv=>whnf);done));conv=>whnf)
     have hw2:(s.take (Int.toNat (IntKind.i64.wrap ((i:Int)+((m+1:Nat):Int))))).drop (Int.toNat (i:Int))=(s.drop i).take (m+1):=by
      rw [w64 (by omega)]
      have e1:Int.toNat ((i:Int)+((m+1:Nat):Int))=i+(m+1):=by omega
      rw [e1,Int.toNat_natCast,List.drop_take,Nat.add_sub_cancel_left]
     have hcells:=congrArg (fun w=>[AV.p (.int .i64 3),AV.p (.int .i64 0),AV.p (.int .i64 (i:Int)),AV.p (.str w)]) hw2
     refine⟨⟨rfl,rfl,rfl,allLt_ok ⟨trivial,rfl⟩⟩,?_⟩
     conv=>whnf
     refine⟨⟨rfl,rfl,rfl,rfl,?_,?_⟩,?_⟩
     ·show (l.length+1)*40≤140737488355328
      omega
     ·show l.length+1≤9223372036854775807
      omega
     conv=>whnf
     repeat ((refine And.intro ?_ ?_);(focus ((conv=>whnf);done));conv=>whnf)
     refine hle _ _ (Le.cutEnv 3 rfl rfl ⟨rfl,rfl,?_,trivial⟩ ?_ ?_) (ih ⟨l++[⟨.sign,0,i,(s.drop i).take (m+1)⟩],i+(m+1),n⟩ (Nat.lt_succ_self _) ⟨?_,?_,?_,?_⟩)
     ·exact tok_cl l ⟨.sign,0,i,(s.drop i).take (m+1)⟩ _ 3 hcells
     ·exact⟨AV.le_refl _,AV.le_refl _,AV.le_refl _,AV.le_of_eq (slr_len _ _),trivial⟩
     ·refine⟨ABlk.le_refl _,ABlk.le_of_eq ?_,tokA_snoc l ⟨.sign,0,i,(s.drop i).take (m+1)⟩ _ hcells,trivial⟩
      show ABlk.box 3 [.p (.int .i64 (IntKind.i64.wrap ((i:Int)+((m+1:Nat):Int))))]=_
      rw [w64 (by omega)];rfl
     ·simp only;omega
     ·simp only;omega
     ·simp only [List.length_append,List.length_cons,List.length_nil];omega
     ·rw [← he,app_cons,List.drop_drop]
 ·rw [hd2] at h
  have h:=of_decide_eq_false h
  obtain rfl:i=s.length:=by omega
  rw [List.drop_length] at he
  have hct:cutT s=.ok l:=by
   rw [← he]
   cases n<;>simp [cutS,CR.app]
  rw [hct] at hk
  conv=>whnf
  refine⟨⟨rfl,rfl,rfl,allLt_ok ⟨trivial,rfl⟩⟩,?_⟩
  conv=>whnf
  refine⟨⟨rfl,rfl,rfl,rfl,?_,?_⟩,?_⟩
  ·show (l.length+1)*40≤140737488355328
   omega
  ·show l.length+1≤9223372036854775807
   omega
  conv=>whnf
  exact hr _ _ _ _ (Wk1.tup_freeze1 (r:=2) rfl (encs s.length l) (enc_all _ _ _ rfl)) rfl hk
end Go.Proofs.YtojjkleplnijaaaGreatDoor
namespace Go.AE
def rst (t:List (Nat×AV)):List Nat→List (Nat×AV)
 | []=>[]
 | d::l=>(d,look t d)::rst t l
def upK (K:List ABlk):List (Nat×ABlk)→List ABlk
 | []=>K
 | (r,b)::l=>setN (upK K l) r b
def upLe (K:List ABlk):List (Nat×ABlk)→Prop
 | []=>True
 | (r,b)::l=>(∀ b0,nth K r=some b0→b0.le b)∧upLe K l
theorem subE_append {t a b:List (Nat×AV)} (h:subE t a) (h':subE t b):subE t (a++b):=by
 induction a with
 | nil=>exact h'
 | cons x l ih=>exact⟨h.1,ih h.2⟩
theorem subE_rst (t:List (Nat×AV)) (l:List Nat):subE t (rst t l):=by
 induction l with
 | nil=>trivial
 | cons d l ih=>exact⟨AV.le_refl _,ih⟩
theorem lesK_setN {K K':List ABlk} (h:lesK K K'):∀ (r:Nat) (b:ABlk),(∀ b0,nth K r=some b0→b0.le b)→lesK K (setN K' r b):=by
 induction K generalizing K' with
 | nil =>
  intro r b _
  cases K' with
  | nil=>exact h
  | cons a l=>exact h.elim
 | cons a l ih =>
  intro r b hb
  cases K' with
  | nil=>exact h.elim
  | cons a' l' =>
   cases r with
   | zero=>exact⟨hb a rfl,h.2⟩
   | succ r=>exact⟨h.1,ih h.2 r b hb⟩
theorem lesK_up {K:List ABlk} {l:List (Nat×ABlk)} (h:upLe K l):lesK K (upK K l):=by
 induction l with
 | nil=>exact lesK.refl K
 | cons x l ih=>exact lesK_setN (ih h.2) _ _ h.1
theorem loop_up {kb:Nat} {F:AS→(Ex→AS→Prop)→Prop} {Q:Ex→AS→Prop} {t:List (Nat×AV)} {K:List ABlk} {ι:Type} (keep:List Nat) (ts:ι→List (Nat×AV)) (up:ι→List (Nat×ABlk)) (Pre:ι→Prop) (μ:ι→Nat) (i:ι)
  (ht:subE t (ts i)) (hK:upLe K (up i)) (hi:Pre i)
  (h:∀ (X:AS→Prop),(∀ s s',Le kb s s'→X s'→X s)→∀ i,Pre i→(∀ j,μ j<μ i→Pre j→X ⟨ts j++rst t keep,upK K (up j)⟩)→F ⟨ts i++rst t keep,upK K (up i)⟩ (fun e s'=>match e with | .norm=>X s'|e=>Q e s')) :
  LoopW kb F ⟨t,K⟩ Q :=
 loop_by (fun i=>⟨ts i++rst t keep,upK K (up i)⟩) Pre μ i (subE_append ht (subE_rst t keep)) (lesK_up hK) hi h
theorem upLe1 {K:List ABlk} {r:Nat} {b0 b:ABlk} (h0:nth K r=some b0) (h:b0.le b):∀ b1,nth K r=some b1→b1.le b:=fun b1 h1=>by
 rw [h0] at h1;injection h1 with h1;rw [← h1];exact h
end Go.AE
namespace Go.AE
section
variable {P:Program} {T:Tab}
mutual
def AV.up (n:Nat):AV→AV
 | .ptr r ver k i off=>.ptr (r+n) ver k i off
 | .slr r ver off k=>.slr (r+n) ver off k
 | .fn f a b=>.fn f (AV.ups n a) (AV.ups n b)
 | .iface t v=>.iface t (AV.up n v)
 | .agg l=>.agg (AV.ups n l)
 | .tup l=>.tup (AV.ups n l)
 | .yld r=>.yld (r+n)
 | .mref r=>.mref (r+n)
 | .p v=>.p v
 | .rop cs off=>.rop cs off
 | .junk=>.junk
def AV.ups (n:Nat):List AV→List AV
 | []=>[]
 | a::l=>AV.up n a::AV.ups n l
end
mutual
def AV.dn (n:Nat):AV→AV
 | .ptr r ver k i off=>match Nat.ble n r with
  | true=>.ptr (Nat.sub r n) ver k i off
  | false=>.junk
 | .slr r ver off k=>match Nat.ble n r with
  | true=>.slr (Nat.sub r n) ver off k
  | false=>.junk
 | .fn f a b=>.fn f (AV.dns n a) (AV.dns n b)
 | .iface t v=>.iface t (AV.dn n v)
 | .agg l=>.agg (AV.dns n l)
 | .tup l=>.tup (AV.dns n l)
 | .yld r=>match Nat.ble n r with
  | true=>.yld (Nat.sub r n)
  | false=>.junk
 | .mref r=>match Nat.ble n r with
  | true=>.mref (Nat.sub r n)
  | false=>.junk
 | .p v=>.p v
 | .rop cs off=>.rop cs off
 | .junk=>.junk
def AV.dns (n:Nat):List AV→List AV
 | []=>[]
 | a::l=>AV.dn n a::AV.dns n l
end
theorem AV.ups_len (n:Nat) (l:List AV):(AV.ups n l).length=l.length:=by
 induction l with
 | nil=>rfl
 | cons a l ih=>simp [AV.ups,ih]
theorem AV.dns_len (n:Nat) (l:List AV):(AV.dns n l).length=l.length:=by
 induction l with
 | nil=>rfl
 | cons a l ih=>simp [AV.dns,ih]
theorem AV.ups_get (n:Nat) (l:List AV) (j:Nat) (hj:j<(AV.ups n l).length):(AV.ups n l)[j]=AV.up n (l[j]'(by rw [AV.ups_len] at hj;exact hj)):=by
 induction l generalizing j with
 | nil=>simp [AV.ups] at hj
 | cons a l ih =>
  cases j with
  | zero=>rfl
  | succ j=>simpa [AV.ups] using ih j (by simpa [AV.ups] using hj)
theorem AV.dns_get (n:Nat) (l:List AV) (j:Nat) (hj:j<(AV.dns n l).length):(AV.dns n l)[j]=AV.dn n (l[j]'(by rw [AV.dns_len] at hj;exact hj)):=by
 induction l generalizing j with
 | nil=>simp [AV.dns] at hj
 | cons a l ih =>
  cases j with
  | zero=>rfl
  | succ j=>simpa [AV.dns] using ih j (by simpa [AV.dns] using hj)
def Mp.dn (n:Nat) (m:Mp):Mp:=⟨fun r=>m.ρ (r+n),m.I,fun r=>m.L (r+n)⟩
def Mp.ups (n:Nat) (m m':Mp):Mp:=⟨fun r=>if r<n then m.ρ r else m'.ρ (r - n),m'.I,fun r=>if r<n then m.L r else m'.L (r - n)⟩
theorem V.dn {w:World} {m:Mp} {a:AV} {u:Value} (n:Nat) (h:V w m a u):V w (m.dn n) (a.dn n) u:=by
 induction h with
 | p v u h=>exact .p v u h
 | ptr r ver k i off sz cap h hi =>
  simp only [AV.dn]
  split
  ·rename_i hb
   have hb:=Nat.le_of_ble_eq_true hb
   have e:Nat.sub r n+n=r:=by simp only [Nat.sub_eq];omega
   have:=V.ptr (w:=w) (m:=m.dn n) (Nat.sub r n) ver k i off sz cap (by simp only [Mp.dn,e,h]) hi
   simp only [Mp.dn,e] at this ⊢
   exact this
  ·exact .junk _
 | ptrOld r ver k i off b o h =>
  simp only [AV.dn]
  split
  ·rename_i hb
   have hb:=Nat.le_of_ble_eq_true hb
   have e:Nat.sub r n+n=r:=by simp only [Nat.sub_eq];omega
   exact .ptrOld (m:=m.dn n) _ ver k i off b o (by simp only [Mp.dn,e];exact h)
  ·exact .junk _
 | slr r ver off k N sz cap h hn =>
  simp only [AV.dn]
  split
  ·rename_i hb
   have hb:=Nat.le_of_ble_eq_true hb
   have e:Nat.sub r n+n=r:=by simp only [Nat.sub_eq];omega
   have:=V.slr (w:=w) (m:=m.dn n) (Nat.sub r n) ver off k N sz cap (by simp only [Mp.dn,e,h]) hn
   simp only [Mp.dn,e] at this ⊢
   exact this
  ·exact .junk _
 | slrNil r ver h =>
  simp only [AV.dn]
  split
  ·rename_i hb
   have hb:=Nat.le_of_ble_eq_true hb
   have e:Nat.sub r n+n=r:=by simp only [Nat.sub_eq];omega
   exact .slrNil (m:=m.dn n) _ ver (by simp only [Mp.dn,e,h])
  ·exact .junk _
 | slrOld r ver off k ad c h =>
  simp only [AV.dn]
  split
  ·rename_i hb
   have hb:=Nat.le_of_ble_eq_true hb
   have e:Nat.sub r n+n=r:=by simp only [Nat.sub_eq];omega
   exact .slrOld (m:=m.dn n) _ ver off k ad c (by simp only [Mp.dn,e];exact h)
  ·exact .junk _
 | rop cs off b o u hb h1 h2=>exact .rop (m:=m.dn n) cs off b o u hb h1 h2
 | fn f first cap A B hA hB h1 h2 ih1 ih2 =>
  exact .fn f _ _ A B (by rw [AV.dns_len];exact hA) (by rw [AV.dns_len];exact hB) (fun j hj hj'=>by rw [AV.dns_get];exact ih1 j _ hj') (fun j hj hj'=>by rw [AV.dns_get];exact ih2 j _ hj')
 | iface t v u h ih=>exact .iface t _ u ih
 | agg cs A hA h ih=>exact .agg _ A (by rw [AV.dns_len];exact hA) (fun j hj hj'=>by rw [AV.dns_get];exact ih j _ hj')
 | tup cs A hA h ih=>exact .tup _ A (by rw [AV.dns_len];exact hA) (fun j hj hj'=>by rw [AV.dns_get];exact ih j _ hj')
 | yld r sz cap h =>
  simp only [AV.dn]
  split
  ·rename_i hb
   have hb:=Nat.le_of_ble_eq_true hb
   have e:Nat.sub r n+n=r:=by simp only [Nat.sub_eq];omega
   have:=V.yld (w:=w) (m:=m.dn n) (Nat.sub r n) sz cap (by simp only [Mp.dn,e,h])
   simp only [Mp.dn,e] at this ⊢
   exact this
  ·exact .junk _
 | yldOld r b h =>
  simp only [AV.dn]
  split
  ·rename_i hb
   have hb:=Nat.le_of_ble_eq_true hb
   have e:Nat.sub r n+n=r:=by simp only [Nat.sub_eq];omega
   exact .yldOld (m:=m.dn n) _ b (by simp only [Mp.dn,e];exact h)
  ·exact .junk _
 | mref r sz cap h =>
  simp only [AV.dn]
  split
  ·rename_i hb
   have hb:=Nat.le_of_ble_eq_true hb
   have e:Nat.sub r n+n=r:=by simp only [Nat.sub_eq];omega
   have:=V.mref (w:=w) (m:=m.dn n) (Nat.sub r n) sz cap (by simp only [Mp.dn,e,h])
   simp only [Mp.dn,e] at this ⊢
   exact this
  ·exact .junk _
 | mrefOld r b h =>
  simp only [AV.dn]
  split
  ·rename_i hb
   have hb:=Nat.le_of_ble_eq_true hb
   have e:Nat.sub r n+n=r:=by simp only [Nat.sub_eq];omega
   exact .mrefOld (m:=m.dn n) _ b (by simp only [Mp.dn,e];exact h)
  ·exact .junk _
 | junk u=>exact .junk u
theorem V.ups {w:World} {m0 m:Mp} {a:AV} {u:Value} (n:Nat) (h:V w m a u):V w (m0.ups n m) (a.up n) u:=by
 have hL:∀ r,(m0.ups n m).L (r+n)=m.L r:=fun r=>by simp [Mp.ups,show ¬ (r+n<n) by omega]
 have hρ:∀ r,(m0.ups n m).ρ (r+n)=m.ρ r:=fun r=>by simp [Mp.ups,show ¬ (r+n<n) by omega]
 induction h with
 | p v u h=>exact .p v u h
 | ptr r ver k i off sz cap h hi =>
  have:=V.ptr (w:=w) (m:=m0.ups n m) (r+n) ver k i off sz cap (by rw [hL,h]) hi
  rwa [hρ] at this
 | ptrOld r ver k i off b o h=>exact .ptrOld (m:=m0.ups n m) _ ver k i off b o (by rw [hL];exact h)
 | slr r ver off k N sz cap h hn =>
  have:=V.slr (w:=w) (m:=m0.ups n m) (r+n) ver off k N sz cap (by rw [hL,h]) hn
  rwa [hρ] at this
 | slrNil r ver h=>exact .slrNil (m:=m0.ups n m) _ ver (by rw [hL,h])
 | slrOld r ver off k ad c h=>exact .slrOld (m:=m0.ups n m) _ ver off k ad c (by rw [hL];exact h)
 | rop cs off b o u hb h1 h2=>exact .rop (m:=m0.ups n m) cs off b o u hb h1 h2
 | fn f first cap A B hA hB h1 h2 ih1 ih2 =>
  exact .fn f _ _ A B (by rw [AV.ups_len];exact hA) (by rw [AV.ups_len];exact hB) (fun j hj hj'=>by rw [AV.ups_get];exact ih1 j _ hj') (fun j hj hj'=>by rw [AV.ups_get];exact ih2 j _ hj')
 | iface t v u h ih=>exact .iface t _ u ih
 | agg cs A hA h ih=>exact .agg _ A (by rw [AV.ups_len];exact hA) (fun j hj hj'=>by rw [AV.ups_get];exact ih j _ hj')
 | tup cs A hA h ih=>exact .tup _ A (by rw [AV.ups_len];exact hA) (fun j hj hj'=>by rw [AV.ups_get];exact ih j _ hj')
 | yld r sz cap h =>
  have:=V.yld (w:=w) (m:=m0.ups n m) (r+n) sz cap (by rw [hL,h])
  rwa [hρ] at this
 | yldOld r b h=>exact .yldOld (m:=m0.ups n m) _ b (by rw [hL];exact h)
 | mref r sz cap h =>
  have:=V.mref (w:=w) (m:=m0.ups n m) (r+n) sz cap (by rw [hL,h])
  rwa [hρ] at this
 | mrefOld r b h=>exact .mrefOld (m:=m0.ups n m) _ b (by rw [hL];exact h)
 | junk u=>exact .junk u
def upO (n:Nat):Option AV→Option AV
 | none=>none
 | some a=>some (a.up n)
def dnO (n:Nat):Option AV→Option AV
 | none=>none
 | some a=>some (a.dn n)
theorem MpOk.re {V' V2:AV→Value→Prop} {kt:KT} {es:List MapEntry} {clock:Nat} {g g':MK→Option AV} {st:List (MK×Nat)} {r:MK→Option (Nat×Value)} (h:MpOk V' kt es clock g st r)
  (h0:∀ κ,g' κ=none→g κ=none) (hV:∀ κ a',g' κ=some a'→∃ a,g κ=some a∧∀ u,V' a u→V2 a' u):MpOk V2 kt es clock g' st r :=
 ⟨h.is,fun κ hk hg=>h.no κ hk (h0 κ hg),fun κ a' hk hg=>let ⟨a,h1,h2⟩:=hV κ a' hg;let ⟨i,u,h3,h4⟩:=h.yes κ a hk h1;⟨i,u,h3,h2 u h4⟩,h.st⟩
def ABlk.up (n:Nat):ABlk→ABlk
 | .box ty cs=>.box ty (AV.ups n cs)
 | .arr ty sz ver k f=>.arr ty sz ver k fun i=>AV.ups n (f i)
 | .mp kt g st=>.mp kt (fun κ=>upO n (g κ)) st
 | b=>b
def ABlk.dn (n:Nat):ABlk→ABlk
 | .box ty cs=>.box ty (AV.dns n cs)
 | .arr ty sz ver k f=>.arr ty sz ver k fun i=>AV.dns n (f i)
 | .mp kt g st=>.mp kt (fun κ=>dnO n (g κ)) st
 | b=>b
def ABlk.nl:ABlk→Prop
 | .lp _ _ _ _ _ _=>False
 | _=>True
def upsB (n:Nat):List ABlk→List ABlk
 | []=>[]
 | b::l=>b.up n::upsB n l
def dnsB (n:Nat):List ABlk→List ABlk
 | []=>[]
 | b::l=>b.dn n::dnsB n l
def nlK:List ABlk→Prop
 | []=>True
 | b::l=>b.nl∧nlK l
def AO.up (n:Nat):AO→AO
 | .ret a=>.ret (a.up n)
 | .pan a=>.pan (a.up n)
theorem hp_dns (n:Nat) (K:List ABlk) (r:Nat):hp (dnsB n K) r=(hp K r).dn n:=by
 induction K generalizing r with
 | nil=>rfl
 | cons b K ih =>
  cases r with
  | zero=>rfl
  | succ r=>exact ih r
theorem hp_ups (n:Nat) (K:List ABlk) (r:Nat):hp (upsB n K) r=(hp K r).up n:=by
 induction K generalizing r with
 | nil=>rfl
 | cons b K ih =>
  cases r with
  | zero=>rfl
  | succ r=>exact ih r
theorem nlK.hp {K:List ABlk} (h:nlK K) (r:Nat):(hp K r).nl:=by
 induction K generalizing r with
 | nil=>trivial
 | cons b K ih =>
  cases r with
  | zero=>exact h.1
  | succ r=>exact ih h.2 r
theorem BlkOk.dn {w:World} {m:Mp} {l:Inf} {g:Nat} {b:ABlk} (n:Nat) (hn:b.nl) (h:BlkOk w m l g b):BlkOk w (m.dn n) l g (b.dn n):=by
 cases b with
 | absent=>exact h
 | dead=>exact h
 | box ty cs =>
  obtain⟨hl,c,h1,h2,h3⟩:=h
  refine⟨by rw [AV.dns_len];exact hl,c,h1,by rw [AV.dns_len];exact h2,fun j hj=>?_⟩
  rw [AV.dns_get]
  obtain⟨u,a,b⟩:=h3 j (by rw [AV.dns_len] at hj;exact hj)
  exact⟨u,a,b.dn n⟩
 | arr ty sz ver k f =>
  rcases h with h|⟨cap,c,hl,h0,h00,h1,h2,h3⟩
  ·exact .inl h
  refine .inr ⟨cap,c,hl,h0,h00,h1,h2,fun i hi=>⟨by rw [AV.dns_len];exact (h3 i hi).1,fun j hj=>?_⟩⟩
  rw [AV.dns_get]
  obtain⟨u,a,b⟩:=(h3 i hi).2 j (by rw [AV.dns_len] at hj;exact hj)
  exact⟨u,a,b.dn n⟩
 | lp=>exact hn.elim
 | mp kt q st =>
  obtain⟨hl,es,clock,r,h1,h2⟩:=h
  refine⟨hl,es,clock,r,h1,h2.re (fun κ hg=>?_) fun κ a' hg=>?_⟩
  ·cases hq:q κ with
   | none=>rfl
   | some a=>simp [dnO,hq] at hg
  ·cases hq:q κ with
   | none=>simp [dnO,hq] at hg
   | some a =>
    simp only [dnO,hq,Option.some.injEq] at hg
    subst hg
    exact⟨a,rfl,fun u hv=>hv.dn n⟩
theorem BlkOk.ups {w:World} {m0 m:Mp} {l:Inf} {g:Nat} {b:ABlk} (n:Nat) (hn:b.nl) (h:BlkOk w m l g b):BlkOk w (m0.ups n m) l g (b.up n):=by
 cases b with
 | absent=>exact h
 | dead=>exact h
 | box ty cs =>
  obtain⟨hl,c,h1,h2,h3⟩:=h
  refine⟨by rw [AV.ups_len];exact hl,c,h1,by rw [AV.ups_len];exact h2,fun j hj=>?_⟩
  rw [AV.ups_get]
  obtain⟨u,a,b⟩:=h3 j (by rw [AV.ups_len] at hj;exact hj)
  exact⟨u,a,b.ups n⟩
 | arr ty sz ver k f =>
  rcases h with h|⟨cap,c,hl,h0,h00,h1,h2,h3⟩
  ·exact .inl h
  refine .inr ⟨cap,c,hl,h0,h00,h1,h2,fun i hi=>⟨by rw [AV.ups_len];exact (h3 i hi).1,fun j hj=>?_⟩⟩
  rw [AV.ups_get]
  obtain⟨u,a,b⟩:=(h3 i hi).2 j (by rw [AV.ups_len] at hj;exact hj)
  exact⟨u,a,b.ups n⟩
 | lp=>exact hn.elim
 | mp kt q st =>
  obtain⟨hl,es,clock,r,h1,h2⟩:=h
  refine⟨hl,es,clock,r,h1,h2.re (fun κ hg=>?_) fun κ a' hg=>?_⟩
  ·cases hq:q κ with
   | none=>rfl
   | some a=>simp [upO,hq] at hg
  ·cases hq:q κ with
   | none=>simp [upO,hq] at hg
   | some a =>
    simp only [upO,hq,Option.some.injEq] at hg
    subst hg
    exact⟨a,rfl,fun u hv=>hv.ups n⟩
theorem shift_ok {n:Nat} {w w':World} {m m':Mp} {Y K2:List ABlk} {H:Nat→ABlk} (hY:Y.length=n) (hS:St w m H) (hH:∀ r,r<n→H r=hp Y r) (hT:Tr w (m.dn n) w' m') (hS':St w' m' (hp K2)) (hnl:nlK K2) :
  Tr w m w' (m.ups n m')∧St w' (m.ups n m') (hp (Y++upsB n K2)):=by
 have hlo:∀ r,r<n→(m.ups n m').L r=m.L r∧(m.ups n m').ρ r=m.ρ r:=fun r hr=>by simp [Mp.ups,hr]
 have hhi:∀ r,¬ r<n→(m.ups n m').L r=m'.L (r - n)∧(m.ups n m').ρ r=m'.ρ (r - n):=fun r hr=>by simp [Mp.ups,hr]
 have hdn:∀ r,¬ r<n→(m.dn n).L (r - n)=m.L r∧(m.dn n).ρ (r - n)=m.ρ r:=fun r hr=>by
  have:r - n+n=r:=by omega
  simp only [Mp.dn,this];exact⟨trivial,trivial⟩
 have hTr:Tr w m w' (m.ups n m'):={
  os:=hT.os
  tape:=hT.tape
  output:=hT.output
  size:=hT.size
  out:=fun b hb hr=>hT.out b hb fun r hl=>hr (r+n) hl
  imm:=fun b hb=>hT.imm b hb
  same:=fun b hb=>hT.same b hb
  newI:=fun b hb=>by
   rcases hT.newI b hb with h|⟨r,h1,h2⟩|h
   ·exact .inl h
   ·exact .inr (.inl ⟨r+n,h1,h2⟩)
   ·exact .inr (.inr h)
  step:=fun r=>by
   by_cases hr:r<n
   ·rw [(hlo r hr).1,(hlo r hr).2];exact Inf.step_refl _ _ rfl
   ·rw [(hhi r hr).1,(hhi r hr).2]
    have:=hT.step (r - n)
    rw [(hdn r hr).1,(hdn r hr).2] at this
    exact this
  newρ:=fun r hl=>by
   by_cases hr:r<n
   ·rw [(hlo r hr).1] at hl;exact .inl ⟨hl,(hlo r hr).2⟩
   ·rw [(hhi r hr).1] at hl
    rw [(hhi r hr).2]
    rcases hT.newρ (r - n) hl with ⟨h1,h2⟩|h1
    ·rw [(hdn r hr).1] at h1
     rw [(hdn r hr).2] at h2
     exact .inl ⟨h1,h2⟩
    ·exact .inr h1 }
 have sep:∀ r1 r2,r1<n→(m.L r1).isLive→¬ r2<n→(m'.L (r2 - n)).isLive→m.ρ r1≠m'.ρ (r2 - n):=fun r1 r2 h1 hl1 h2 hl2 e=>by
  rcases hT.newρ (r2 - n) hl2 with ⟨h3,h4⟩|h3
  ·rw [(hdn r2 h2).1] at h3
   rw [(hdn r2 h2).2] at h4
   have:=hS.inj r1 r2 hl1 h3 (e.trans h4)
   omega
  ·have:=hS.lt r1 hl1;omega
 refine⟨hTr,fun r1 r2 h1 h2 e=>?_,fun r h1 hI=>?_,fun r h1=>?_,hS'.Ilt,hS'.gl,fun r=>?_⟩
 ·by_cases hr1:r1<n<;>by_cases hr2:r2<n
  ·rw [(hlo r1 hr1).1] at h1;rw [(hlo r2 hr2).1] at h2
   rw [(hlo r1 hr1).2,(hlo r2 hr2).2] at e
   exact hS.inj r1 r2 h1 h2 e
  ·rw [(hlo r1 hr1).1] at h1;rw [(hhi r2 hr2).1] at h2
   rw [(hlo r1 hr1).2,(hhi r2 hr2).2] at e
   exact absurd e (sep r1 r2 hr1 h1 hr2 h2)
  ·rw [(hhi r1 hr1).1] at h1;rw [(hlo r2 hr2).1] at h2
   rw [(hhi r1 hr1).2,(hlo r2 hr2).2] at e
   exact absurd e.symm (sep r2 r1 hr2 h2 hr1 h1)
  ·rw [(hhi r1 hr1).1] at h1;rw [(hhi r2 hr2).1] at h2
   rw [(hhi r1 hr1).2,(hhi r2 hr2).2] at e
   have:=hS'.inj _ _ h1 h2 e
   omega
 ·by_cases hr:r<n
  ·rw [(hlo r hr).1] at h1
   rw [(hlo r hr).2] at hI
   rcases hT.newI _ hI with h|⟨r0,h2,h3⟩|h
   ·exact hS.notI r h1 h
   ·have:=hS.inj (r0+n) r h2 h1 h3;omega
   ·have:=hS.lt r h1;omega
  ·rw [(hhi r hr).1] at h1
   rw [(hhi r hr).2] at hI
   exact hS'.notI _ h1 hI
 ·by_cases hr:r<n
  ·rw [(hlo r hr).1] at h1
   rw [(hlo r hr).2]
   exact Nat.lt_of_lt_of_le (hS.lt r h1) hT.size
  ·rw [(hhi r hr).1] at h1
   rw [(hhi r hr).2]
   exact hS'.lt _ h1
 ·rw [hp_append,hY]
  by_cases hr:r<n
  ·rw [if_pos hr,(hlo r hr).1,(hlo r hr).2]
   have hb:=hS.blk r
   rw [hH r hr] at hb
   by_cases hl:(m.L r).isLive
   ·refine hb.mono (hT.out _ (hS.lt r hl) fun r0 h0 e=>?_) (fun _ _ hv=>hv.mono hTr)
    have:=hS.inj (r0+n) r h0 hl e
    omega
   ·exact hb.nolive hl
  ·rw [if_neg hr,(hhi r hr).1,(hhi r hr).2,hp_ups]
   exact (hS'.blk (r - n)).ups n (hnl.hp _)
theorem St.dn {w:World} {m:Mp} {Y K1:List ABlk} {n:Nat} (hY:Y.length=n) (hnl:nlK K1) (hS:St w m (hp (Y++K1))):St w (m.dn n) (hp (dnsB n K1)):=by
 refine⟨fun r1 r2 h1 h2 e=>by have:=hS.inj (r1+n) (r2+n) h1 h2 e;omega,fun r h1=>hS.notI (r+n) h1,fun r h1=>hS.lt (r+n) h1,hS.Ilt,hS.gl,fun r=>?_⟩
 rw [hp_dns]
 have hb:=hS.blk (r+n)
 rw [hp_append,hY,if_neg (by omega),show r+n - n=r by omega] at hb
 exact hb.dn n (hnl.hp _)
theorem ACalls.shift {n:Nat} {f:FuncId} {args:List AV} {Y K1:List ABlk} {k:AO→List ABlk→Prop} (hY:Y.length=n) (hnl:nlK K1)
  (h:ACalls P f (AV.dns n args) (dnsB n K1) (fun ao K2=>nlK K2∧k (ao.up n) (Y++upsB n K2))):ACalls P f args (Y++K1) k:=by
 refine⟨h.1,fun w m Args hS hV=>?_⟩
 have hV':VL w (m.dn n) (AV.dns n args) Args:=⟨by rw [AV.dns_len];exact hV.1,fun j hj hj'=>by rw [AV.dns_get];exact (hV.2 j _ hj').dn n⟩
 have hH:∀ r,r<n→hp (Y++K1) r=hp Y r:=fun r hr=>by rw [hp_append,hY,if_pos hr]
 refine (h.2 w (m.dn n) Args (hS.dn hY hnl) hV').mono fun e w' he=>?_
 cases e with
 | returned u =>
  obtain⟨m',a,K2,h1,h2,h3,h4,h5⟩:=he
  obtain⟨k1,k2⟩:=shift_ok hY hS hH h1 h2 h4
  exact⟨_,_,_,k1,k2,h3.ups n,h5⟩
 | panicked ch =>
  obtain⟨m',a,u,K2,h0,h1,h2,h3,h4,h5⟩:=he
  obtain⟨k1,k2⟩:=shift_ok hY hS hH h1 h2 h4
  exact⟨_,_,u,_,h0,k1,k2,h3.ups n,h5⟩
 | outgrown=>exact he.elim
theorem ACalls.nilPre {f:FuncId} {args:List AV} {K K':List ABlk} {k:AO→List ABlk→Prop} (ty sz:Nat) (g:Nat→List AV) (hK:nswK K.length K K')
  (h:ACalls P f args (K'++[.arr ty sz 0 0 g]) k):ACalls P f args K k :=
 h.pre fun w m Args hS hV=>by
  obtain⟨m',h1,h2,_⟩:=nil_core ty sz g hS hK
  exact⟨m',h1,h2,hV.1,fun j hj hj'=>(hV.2 j hj hj').mono h1⟩
def fsw (r sz n:Nat) (g:Nat→List PV) (a b:AV):Prop:=a.le b∨(a=.slr r 0 0 n∧b=.p (.sl sz n g))
def fswL (r sz n:Nat) (g:Nat→List PV):List AV→List AV→Prop
 | [],[]=>True
 | a::l,b::l'=>fsw r sz n g a b∧fswL r sz n g l l'
 | _,_=>False
def fswB (r sz n:Nat) (g:Nat→List PV) (b b':ABlk):Prop:=b.le b'∨∃ ty cs cs',b=.box ty cs∧b'=.box ty cs'∧fswL r sz n g cs cs'
def fswK (r sz n:Nat) (g:Nat→List PV):List ABlk→List ABlk→Prop
 | [],[]=>True
 | a::l,b::l'=>fswB r sz n g a b∧fswK r sz n g l l'
 | _,_=>False
theorem fswL.get {r sz n:Nat} {g:Nat→List PV} {l l':List AV} (h:fswL r sz n g l l'):l.length=l'.length∧∀ j (hj:j<l.length) (hj':j<l'.length),fsw r sz n g l[j] l'[j]:=by
 induction l generalizing l' with
 | nil=>cases l' with
  | nil=>exact⟨rfl,fun j hj=>by simp at hj⟩
  | cons b l'=>exact h.elim
 | cons a l ih=>cases l' with
  | nil=>exact h.elim
  | cons b l' =>
   obtain⟨h1,h2⟩:=ih h.2
   refine⟨by simp [h1],fun j hj hj'=>?_⟩
   cases j with
   | zero=>exact h.1
   | succ j=>exact h2 j (by simpa using hj) (by simpa using hj')
theorem fswK.hp {r sz n:Nat} {g:Nat→List PV} {K K':List ABlk} (h:fswK r sz n g K K') (j:Nat):fswB r sz n g (hp K j) (hp K' j):=by
 induction K generalizing K' j with
 | nil=>cases K' with
  | nil=>exact .inl (ABlk.le_refl _)
  | cons b l'=>exact h.elim
 | cons a l ih=>cases K' with
  | nil=>exact h.elim
  | cons b l' =>
   cases j with
   | zero=>exact h.1
   | succ j=>exact ih h.2 j
theorem fz_core {w:World} {m:Mp} {K K':List ABlk} {r ty sz n:Nat} {f:Nat→List AV} {g:Nat→List PV} (hS:St w m (hp K)) (hr:nth K r=some (.arr ty sz 0 n f)) (hg:∀ i,i<n→f i=pvs (g i))
  (hK:fswK r sz n g (setN K r .dead) K'):∃ m',Tr w m w m'∧St w m' (hp K')∧∀ a a' u,fsw r sz n g a a'→V w m a u→V w m' a' u:=by
 obtain⟨m',hT,hS',hV⟩:=freeze_sl hS hr g hg
 have hv:∀ a a' u,fsw r sz n g a a'→V w m a u→V w m' a' u:=fun a a' u h hu=>by
  rcases h with h|⟨rfl,rfl⟩
  ·exact h _ _ _ (hu.mono hT)
  ·exact hV u hu
 refine⟨m',hT,⟨hS'.inj,hS'.notI,hS'.lt,hS'.Ilt,hS'.gl,fun j=>?_⟩,hv⟩
 have hb:=hS'.blk j
 rcases hK.hp j with h|⟨ty,cs,cs',h1,h2,h3⟩
 ·exact h _ _ _ _ hb
 ·rw [h1] at hb
  rw [h2]
  have hup:hp (setN K r .dead) j=upd (hp K) r .dead j:=by rw [upd_setN _ (nth_lt hr)]
  have hj:hp K j=.box ty cs:=by
   rw [h1] at hup
   simp only [upd] at hup
   split at hup
   ·cases hup
   ·exact hup.symm
  have hb0:=hS.blk j
  rw [hj] at hb0
  obtain⟨hl0,c0,e1,e2,e3⟩:=hb0
  obtain⟨hl,c,d1,d2,d3⟩:=hb
  have hρ:m'.ρ j=m.ρ j:=by
   have hs:=hT.step j
   rw [hl0,hl] at hs
   simp only [Inf.step] at hs
   rcases hs with hs|⟨_,he⟩|⟨v',n',sz',cap',hs,hlt⟩
   ·cases hs
   ·exact he
   ·simp only [Inf.live.injEq] at hs;omega
  obtain⟨k1,k2⟩:=h3.get
  refine⟨by rw [← k1];exact hl,c0,by rw [hρ];exact e1,by rw [e2,k1],fun i hi=>?_⟩
  obtain⟨u,hu,hvu⟩:=e3 i (by omega)
  exact⟨u,hu,hv _ _ _ (k2 i (by omega) hi) hvu⟩
theorem Wk1.fz {N:Nat} {K K':List ABlk} {r ty sz n:Nat} {f:Nat→List AV} {a a':AV} (g:Nat→List PV) (hr:nth K r=some (.arr ty sz 0 n f)) (hg:∀ i,i<n→f i=pvs (g i))
  (hK:fswK r sz n g (setN K r .dead) K') (ha:a.le a'):Wk1 N a K a' K':=fun w m u we me hT _ hS hV=>by
 obtain⟨m',h1,h2,h3⟩:=fz_core hS hr hg hK
 exact⟨m',hT.trans h1,h2,h3 _ _ _ (.inl ha) hV⟩
theorem ACalls.fact {f:FuncId} {args:List AV} {K:List ABlk} {k:AO→List ABlk→Prop} {c:Prop} (hent:Ent P f) (hf:∀ w m Args,St w m (hp K)→VL w m args Args→c) (h:c→ACalls P f args K k):ACalls P f args K k :=
 ⟨hent,fun w m Args hS hV=>(h (hf w m Args hS hV)).2 w m Args hS hV⟩
theorem VP.len {w:World} {I:Nat→Prop} {sz n:Nat} {f:Nat→List PV} {u:Value} (h:VP w I (.sl sz n f) u):n≤9223372036854775807:=by
 cases h with
 | sl0=>omega
 | sl _ _ _ b o c uu hI hcap hc hv=>have:=hcap.2;simp only [maxLen] at this;omega
theorem VP.get {w:World} {I:Nat→Prop} {sz n:Nat} {f:Nat→List PV} {u:Value} (h:VP w I (.sl sz n f) u) {i j:Nat} (hi:i<n) (hj:j<(f i).length):∃ u,VP w I (f i)[j] u:=by
 cases h with
 | sl0=>omega
 | sl _ _ _ b o c uu hI hcap hc hv=>exact⟨_,hv i hi j hj⟩
end
end Go.AE
namespace Go.Proofs.YtojjkleplnijaaaGreatDoor
open Go.AE Go.Ru
set_option maxRecDepth 100000
theorem ent_ok {f:FuncId} (h:∃ fn,T0.f.get f=some fn∧fn.body.isSome=true):Ent Tryz.prog f:=by
 obtain⟨fn,h1,h2⟩:=h
 obtain⟨h3,h4⟩:=tabOk.f f fn h1
 exact⟨fn,h3,h4,h2⟩
theorem kids_bound {w:World} {I:Nat→Prop} {ns:List Nd} {u:Value} (h:VP w I (.sl 5 ns.length (nodeF ns)) u) (i:Nat):(ns.getD i default).kids.length≤9223372036854775807:=by
 by_cases hi:i<ns.length
 ·obtain⟨u,hu⟩:=h.get (i:=i) (j:=4) hi (by simp [nodeF,encNode])
  exact VP.len (show VP w I (.sl 1 (ns.getD i default).kids.length (kidF (ns.getD i default).kids)) u from hu)
 ·rw [List.getD_eq_getElem?_getD,List.getElem?_eq_none (by omega)]
  exact Nat.zero_le _
def natF (l:List Nat) (i:Nat):List PV:=[.int .i64 (l.getD i 0:Nat)]
def natA (l:List Nat):ABlk:=.arr 3 1 0 l.length (fun i=>pvs (natF l i))
def sizesV:Option (List Nat)→AV
 | some l=>.tup [.p (.sl 1 l.length (natF l)),.p (.bool true)]
 | none=>.tup [.p .nils,.p (.bool false)]
def cSizes:AC:=fun args K k=>∃ (ns:List Nd),args=[.p (.sl 5 ns.length (nodeF ns))]∧ns.length≤4000∧k (.ret (sizesV (sizesS ns []))) K
structure RC where
 j:Nat
 size:Nat
 last:Int
def sizK (l:List Nat):List ABlk:=[.box 40 [.p .nils],.box 4 [.p (.bool false)],.box 40 [.slr 3 0 0 l.length],natA l]
theorem natA_snoc (l:List Nat) (x:Nat) (f:Nat→List AV) (hf:f 0=[intV x]):(ABlk.arr 3 1 0 (l.length+1) (catF l.length (fun i=>pvs (natF l i)) f)).le (natA (l++[x])):=by
 refine ABlk.arr_eq (by simp) fun i hi=>?_
 by_cases h:i<l.length
 ·rw [catF_lt h]
  simp [natF,List.getD_eq_getElem?_getD,List.getElem?_append_left h]
 ·obtain rfl:i=l.length:=by omega
  rw [catF_ge (Nat.le_refl _),Nat.sub_self,hf]
  simp [natF,List.getD_eq_getElem?_getD,pvs,intV]
theorem nat_cl (l:List Nat) (x:Nat) (f:Nat→List AV) (n:Nat) (hf:f 0=[intV x]):(ABlk.arr 3 1 0 (l.length+1) (catF l.length (fun i=>pvs (natF l i)) f)).cl n:=fun i hi=>by
 by_cases h:i<l.length
 ·rw [catF_lt h];rfl
 ·obtain rfl:i=l.length:=by omega
  rw [catF_ge (Nat.le_refl _),Nat.sub_self,hf];rfl
theorem sizes_ok:COk 134 cSizes:=by
 rintro args K k ⟨ns,rfl,hn,hk⟩
 refine ACalls.fact (ent_ok ⟨_,rfl,rfl⟩) (c:=∀ i,(ns.getD i default).kids.length≤9223372036854775807) (fun w m Args hS hV=>?_) fun hkid=>?_
 ·have h0:=hV.2 0 (by simp) (by have:=hV.1;simp at this;omega)
  simp only [List.getElem_cons_zero] at h0
  generalize Args[0]'(by have:=hV.1;simp at this;omega)=u at h0
  cases h0 with
  | p _ _ h=>exact kids_bound h
 refine frame0W g0_ok 19 rfl fun Q hr=>?_
 conv=>whnf
 refine loop_nil (ι:=List Nat) 3 1 (fun j=>pvs (natF [] j)) (fun l=>⟨[(2,.ptr 0 0 1 0 0),(3,.ptr 1 0 1 0 0),(4,.ptr 2 0 1 0 0),(11,.p (.sl 5 ns.length (nodeF ns))),(12,.p (.int .i64 ns.length)),(13,.p (.int .i64 l.length))],sizK l⟩)
  (fun l=>l.length≤ns.length∧szOk l∧sizesS (ns.drop l.length) l=sizesS ns []) (fun l=>ns.length - l.length) [] [.box 40 [.p .nils],.box 4 [.p (.bool false)],.box 40 [.slr 3 0 0 0]]
  rfl ⟨.inl (AV.le_refl _),.inl (AV.le_refl _),.inl (AV.le_refl _),.inl (AV.le_refl _),.inl (AV.le_refl _),.inl (AV.le_refl _),trivial⟩
  ⟨.inl (ABlk.le_refl _),.inl (ABlk.le_refl _),.inr ⟨_,_,_,rfl,rfl,.inr ⟨rfl,rfl⟩,trivial⟩,trivial⟩ rfl ⟨Nat.zero_le _,fun i hi=>by simp at hi,rfl⟩ ?_
 rintro Y hle l ⟨hl,hso,he⟩ ih
 have hd:decide ((l.length:Int)<(ns.length:Int))=decide (l.length<ns.length):=by
  by_cases h:l.length<ns.length
  ·rw [decide_eq_true h,decide_eq_true (by omega)]
  ·rw [decide_eq_false h,decide_eq_false (by omega)]
 conv=>whnf
 refine two_intro (fun h=>?_) (fun h=>?_)
 ·rw [hd] at h
  have h:=of_decide_eq_true h
  have hs2:ns.drop l.length=ns[l.length]::ns.drop (l.length+1):=List.drop_eq_getElem_cons h
  have hgd:ns.getD l.length default=ns[l.length]:=by simp [h]
  rw [hs2] at he
  simp only [sizesS] at he
  rw [← hgd] at he
  have hkl:=hkid l.length
  have hwr:IntKind.i64.wrap ((l.length:Int) - 1)=(l.length:Int) - 1:=w64 ⟨by omega,by omega⟩
  have hwk:IntKind.i64.wrap (((ns.getD l.length default).kids.length:Int) - 1)=((ns.getD l.length default).kids.length:Int) - 1:=w64 ⟨by omega,by omega⟩
  conv=>whnf
  refine⟨by simp<;>omega,?_⟩
  conv=>whnf
  refine loop_up (ι:=RC) [0,1] (fun c=>[(3,.p (.int .i64 ((c.j:Int) - 1)))]) (fun c=>[(5,.box 3 [.p (.int .i64 (c.size:Int))]),(6,.box 3 [.p (.int .i64 c.last)])])
   (fun c=>c.j≤(ns.getD l.length default).kids.length∧c.last<l.length∧-1≤c.last∧(c.size:Int)=l.length - c.last ∧
    kidsS l ((ns.getD l.length default).kids.take c.j).reverse c.last c.size=kidsS l (ns.getD l.length default).kids.reverse ((l.length:Int) - 1) 1) (fun c=>c.j) ⟨(ns.getD l.length default).kids.length,1,(l.length:Int) - 1⟩
   ⟨AV.le_of_eq (congrArg (fun x=>AV.p (.int .i64 x)) hwk),trivial⟩ ⟨upLe1 rfl (ABlk.le_refl _),upLe1 rfl (ABlk.le_of_eq (congrArg (fun x=>ABlk.box 3 [.p (.int .i64 x)]) hwr)),trivial⟩
   ⟨Nat.le_refl _,by simp only;omega,by simp only;omega,by simp only;omega,by simp only [List.take_length]⟩ ?_
  rintro Z hlz ⟨j,size,last⟩ ⟨hj,hl1,hl2,hl3,hke⟩ ihz
  simp only at hj hl1 hl2 hl3 hke
  have hdj:decide (((j:Int) - 1)≥0)=decide (0<j):=by
   by_cases h:0<j
   ·rw [decide_eq_true h,decide_eq_true (by omega)]
   ·rw [decide_eq_false h,decide_eq_false (by omega)]
  conv=>whnf
  refine two_intro (fun hjj=>?_) (fun hjj=>?_)
  ·rw [hdj] at hjj
   have hjj:=of_decide_eq_true hjj
   obtain⟨j,rfl⟩:∃ i,j=i+1:=⟨j - 1,by omega⟩
   obtain⟨q,hq⟩:∃ q,(ns.getD l.length default).kids.getD j 0=q:=⟨_,rfl⟩
   have htk:((ns.getD l.length default).kids.take (j+1)).reverse=q::((ns.getD l.length default).kids.take j).reverse:=by
    rw [List.take_add_one,List.reverse_append,← hq]
    have hlt:j<(ns.getD l.length default).kids.length:=by omega
    generalize (ns.getD l.length default).kids=ks at hlt
    rw [List.getD_eq_getElem?_getD,List.getElem?_eq_getElem hlt]
    rfl
   rw [htk] at hke
   simp only [kidsS] at hke
   have hjt:(((j+1:Nat):Int) - 1).toNat=j:=by omega
   have hbad:(q==last&&decide (0≤q))=false→k (.ret (.tup [.p .nils,.p (.bool false)])) K:=fun hb=>by
    rw [hb] at hke
    simp only at hke
    rw [← hke] at he
    simp only at he
    rw [← he] at hk
    exact hk
   conv=>whnf
   refine⟨⟨by show (0:Int)≤((j+1:Nat):Int) - 1;omega,by show ((j+1:Nat):Int) - 1<((ns.getD l.length default).kids.length:Int);omega,rfl⟩,?_⟩
   conv=>whnf
   refine two_intro (fun hne=>?_) (fun hne=>?_)
   ·have hne:((ns.getD l.length default).kids.getD (((j+1:Nat):Int) - 1).toNat 0 != last)=true:=hne
    rw [hjt,hq] at hne
    conv=>whnf
    exact hr _ _ _ _ (Wk1.refl _ _ _) rfl (hbad (by simp at hne;simp [hne]))
   ·have hne:((ns.getD l.length default).kids.getD (((j+1:Nat):Int) - 1).toNat 0 != last)=false:=hne
    rw [hjt,hq] at hne
    conv=>whnf
    refine two_intro (fun hn0=>?_) (fun hn0=>?_)
    ·have hn0:decide ((ns.getD l.length default).kids.getD (((j+1:Nat):Int) - 1).toNat 0<0)=true:=hn0
     rw [hjt,hq] at hn0
     conv=>whnf
     exact hr _ _ _ _ (Wk1.refl _ _ _) rfl (hbad (by have:=of_decide_eq_true hn0;simp [show ¬ (0≤q) by omega]))
    ·have hn0:decide ((ns.getD l.length default).kids.getD (((j+1:Nat):Int) - 1).toNat 0<0)=false:=hn0
     rw [hjt,hq] at hn0
     have hn0:=of_decide_eq_false hn0
     have hql:q=last:=by simpa using hne
     subst hql
     rw [show (q==q&&decide (0≤q))=true by simp;omega] at hke
     simp only at hke
     have hsq:=hso q.toNat (by omega)
     have hC:∀ x:Int,x=q→0≤x∧x<(l.length:Int):=fun x hx=>by subst hx;omega
     have hqe:(ns.getD l.length default).kids.getD (((j+1:Nat):Int) - 1).toNat 0=q:=by rw [hjt,hq]
     conv=>whnf
     refine⟨⟨rfl,Nat.zero_add _,(hC _ hqe).1,(hC _ hqe).2,rfl⟩,?_⟩
     conv=>whnf
     refine⟨⟨rfl,rfl⟩,?_⟩
     conv=>whnf
     refine⟨⟨rfl,Nat.zero_add _,(hC _ hqe).1,(hC _ hqe).2,rfl⟩,?_⟩
     conv=>whnf
     refine⟨⟨rfl,rfl⟩,?_⟩
     conv=>whnf
     have hszq:IntKind.i64.wrap ((size:Int)+(l.getD q.toNat 0:Nat))=((size+l.getD q.toNat 0:Nat):Int):=by rw [w64 ⟨by omega,by omega⟩];omega
     have hlaq:IntKind.i64.wrap (q - (l.getD q.toNat 0:Nat))=q - (l.getD q.toNat 0:Nat):=w64 ⟨by omega,by omega⟩
     have hjq:IntKind.i64.wrap ((((j+1:Nat):Int) - 1) - 1)=(j:Int) - 1:=by rw [w64 ⟨by omega,by omega⟩];omega
     refine hlz _ _ (Le.cutEnv 9 rfl rfl ⟨rfl,rfl,rfl,fun _ _=>rfl,rfl,rfl,rfl,rfl,rfl,trivial⟩
      ?e1 ?e2)
      (ihz ⟨j,size+l.getD q.toNat 0,q - (l.getD q.toNat 0:Nat)⟩ (Nat.lt_succ_self _) ⟨?_,?_,?_,?_,hke⟩)
     case e1 =>
      (conv=>whnf)
      refine⟨AV.le_of_eq (congrArg (fun x=>AV.p (.int .i64 x)) hjq),?_⟩
      (conv=>whnf)
      refine⟨AV.le_refl _,?_⟩
      (conv=>whnf)
      refine⟨AV.le_refl _,?_⟩
      (conv=>whnf)
      exact trivial
     case e2 =>
      (conv=>whnf)
      refine⟨ABlk.le_refl _,?_⟩
      (conv=>whnf)
      refine⟨ABlk.le_refl _,?_⟩
      (conv=>whnf)
      refine⟨ABlk.le_refl _,?_⟩
      (conv=>whnf)
      refine⟨ABlk.le_refl _,?_⟩
      (conv=>whnf)
      refine⟨ABlk.le_refl _,?_⟩
      (conv=>whnf)
      refine⟨ABlk.le_of_eq (congrArg (fun x=>ABlk.box 3 [.p (.int .i64 x)]) (show IntKind.i64.wrap ((size:Int)+(l.getD (0+((ns.getD l.length default).kids.getD (((j+1:Nat):Int) - 1).toNat 0).toNat) 0:Nat))=((size+l.getD q.toNat 0:Nat):Int) by rw [hqe,Nat.zero_add];exact hszq)),?_⟩
      (conv=>whnf)
      refine⟨ABlk.le_of_eq (congrArg (fun x=>ABlk.box 3 [.p (.int .i64 x)]) (show IntKind.i64.wrap ((ns.getD l.length default).kids.getD (((j+1:Nat):Int) - 1).toNat 0 - (l.getD (0+((ns.getD l.length default).kids.getD (((j+1:Nat):Int) - 1).toNat 0).toNat) 0:Nat))=q - (l.getD q.toNat 0:Nat) by rw [hqe,Nat.zero_add];exact hlaq)),?_⟩
      (conv=>whnf)
      refine⟨ABlk.le_refl _,?_⟩
      (conv=>whnf)
      refine⟨ABlk.le_refl _,?_⟩
      (conv=>whnf)
      exact trivial
     ·show j≤_;omega
     ·show q - (l.getD q.toNat 0:Nat)<_;omega
     ·show -1≤q - (l.getD q.toNat 0:Nat);omega
     ·show ((size+l.getD q.toNat 0:Nat):Int)=_ - (q - (l.getD q.toNat 0:Nat));omega
  ·rw [hdj] at hjj
   have hjj:=of_decide_eq_false hjj
   obtain rfl:j=0:=by omega
   simp only [List.take_zero,List.reverse_nil,kidsS] at hke
   rw [← hke] at he
   simp only at he
   have hinv:=kidsS_inv hso _ _ _ size (by omega) (by omega) (by omega) hke.symm
   conv=>whnf
   refine⟨⟨rfl,rfl,rfl,allLt_ok ⟨trivial,rfl⟩⟩,?_⟩
   conv=>whnf
   refine⟨⟨rfl,rfl,rfl,rfl,?_,?_⟩,?_⟩
   ·show (l.length+1)*8≤140737488355328
    omega
   ·show l.length+1≤9223372036854775807
    omega
   conv=>whnf
   refine hle _ _ (Le.cutEnv 4 rfl rfl ⟨rfl,rfl,rfl,nat_cl l size _ 4 rfl,trivial⟩ ?e1 ?e2) (ih (l++[size]) ?_ ⟨?_,szOk_snoc hso hinv,?_⟩)
   case e1 =>
    (conv=>whnf)
    refine⟨AV.le_refl _,?_⟩
    (conv=>whnf)
    refine⟨AV.le_refl _,?_⟩
    (conv=>whnf)
    refine⟨AV.le_refl _,?_⟩
    (conv=>whnf)
    refine⟨AV.le_refl _,?_⟩
    (conv=>whnf)
    refine⟨AV.le_refl _,?_⟩
    (conv=>whnf)
    refine⟨AV.le_of_eq (congrArg (fun x=>AV.p (.int .i64 x)) (show IntKind.i64.wrap ((l.length:Int)+1)=((l++[size]).length:Int) by rw [w64 ⟨by omega,by omega⟩];simp)),?_⟩
    (conv=>whnf)
    exact trivial
   case e2 =>
    (conv=>whnf)
    refine⟨ABlk.le_refl _,?_⟩
    (conv=>whnf)
    refine⟨ABlk.le_refl _,?_⟩
    (conv=>whnf)
    refine⟨ABlk.le_of_eq (congrArg (fun x=>ABlk.box 40 [.slr 3 0 0 x]) (show l.length+1=(l++[size]).length by simp)),?_⟩
    (conv=>whnf)
    refine⟨natA_snoc l size _ rfl,?_⟩
    (conv=>whnf)
    exact trivial
   ·show ns.length - (l++[size]).length<ns.length - l.length
    simp only [List.length_append,List.length_cons,List.length_nil];omega
   ·show (l++[size]).length≤ns.length
    simp only [List.length_append,List.length_cons,List.length_nil];omega
   ·show sizesS (ns.drop (l++[size]).length) (l++[size])=_
    rw [← he]
    simp only [List.length_append,List.length_cons,List.length_nil]
 ·rw [hd] at h
  have h:=of_decide_eq_false h
  rw [List.drop_of_length_le (by omega)] at he
  simp only [sizesS] at he
  rw [← he] at hk
  conv=>whnf
  exact hr _ _ _ _ (Wk1.tup_freeze1 (r:=3) rfl (natF l) (fun _ _=>rfl)) rfl hk
def gR1:AG:=gput 134 cSizes g0
theorem gR1_ok:GOk Tryz.prog gR1:=gput_ok sizes_ok g0_ok
def treeV (ns:List Nd) (root:Int):AV:=.agg [.p (.sl 5 ns.length (nodeF ns)),.p (.int .i64 root)]
def cSound:AC:=fun args K k=>∃ (ns:List Nd) (root:Int),args=[treeV ns root]∧ns.length<1000000∧k (.ret (.p (.bool (soundS ns root)))) K
theorem sound_ok:COk 85 cSound:=by
 rintro args K k ⟨ns,root,rfl,hn,hk⟩
 refine frame0P gR1_ok 19 rfl fun Q hr=>?_
 have hbad:soundS ns root=false→k (.ret (.p (.bool false))) K:=fun h=>by rwa [h] at hk
 have hw:(0:Int)<ns.length→IntKind.i64.wrap ((ns.length:Int) - 1)=(ns.length:Int) - 1:=fun h=>w64 ⟨by omega,by omega⟩
 conv=>whnf
 refine two_intro (fun h1=>?_) (fun h1=>?_)
 ·conv=>whnf
  exact hr _ _ rfl (hbad (by
   have:ns.length=0:=by have:=beq_iff_eq.1 h1;omega
   simp [soundS,this]))
 have h1:0<ns.length:=by
  have:¬ ((ns.length:Int)=0):=by simpa using h1
  omega
 conv=>whnf
 refine two_intro (fun h2=>?_) (fun h2=>?_)
 ·conv=>whnf
  exact hr _ _ rfl (hbad (by
   have:(ns.length:Int)>4000:=of_decide_eq_true h2
   simp [soundS,show 4000<ns.length by omega]))
 have h2:ns.length≤4000:=by
  have:¬ ((ns.length:Int)>4000):=of_decide_eq_false h2
  omega
 conv=>whnf
 refine two_intro (fun h3=>?_) (fun h3=>?_)
 ·have h3:(root != IntKind.i64.wrap ((ns.length:Int) - 1))=true:=h3
  rw [hw (by omega)] at h3
  conv=>whnf
  exact hr _ _ rfl (hbad (by simp only [soundS,h3];simp))
 have h3:(root != IntKind.i64.wrap ((ns.length:Int) - 1))=false:=h3
 rw [hw (by omega)] at h3
 have h4:root=(ns.length:Int) - 1:=by simpa using h3
 conv=>whnf
 refine⟨ns,rfl,h2,?_⟩
 cases hz:sizesS ns [] with
 | none =>
  conv=>whnf
  exact hr _ _ rfl (hbad (by simp [soundS,hz]))
 | some l =>
  obtain⟨hl,_,_⟩:=sizesS_inv ns [] l (fun i hi=>by simp at hi) hz
  simp only [List.length_nil,Nat.zero_add] at hl
  conv=>whnf
  refine⟨⟨by omega,by omega,rfl⟩,?_⟩
  conv=>whnf
  refine hr _ _ rfl ?_
  have e:soundS ns root=(l.getD root.toNat 0==ns.length):=by
   have e1:(ns.length==0)=false:=beq_eq_false_iff_ne.2 (by omega)
   have e2:decide (4000<ns.length)=false:=decide_eq_false (by omega)
   simp only [soundS,hz,h3,e1,e2,Bool.or_self,Bool.not_false,Bool.true_and]
  rw [e] at hk
  have e2:(((l.getD root.toNat 0:Nat):Int)==((l.length:Nat):Int))=(l.getD root.toNat 0==ns.length):=by
   rw [hl]
   by_cases h:l.getD root.toNat 0=ns.length
   ·rw [h];simp
   ·have:¬ ((l.getD root.toNat 0:Nat):Int)=((ns.length:Nat):Int):=by omega
    rw [beq_eq_false_iff_ne.2 this,beq_eq_false_iff_ne.2 h]
  rw [← e2] at hk
  exact hk
def deepK (ns:List Nd) (root:Int):List ABlk:=[.box 24 [.p (.sl 5 ns.length (nodeF ns)),.p (.int .i64 root)],.box 55 [.fn 135 [] [.ptr 0 0 1 0 0,.ptr 1 0 1 0 0]]]
def cDeep (n:Nat):AC:=fun args K k=>∃ (ns:List Nd) (root:Int) (p:Int) (X:List ABlk),args=[.p (.int .i64 p),.ptr 0 0 1 0 0,.ptr 1 0 1 0 0]∧K=deepK ns root++X∧0≤p∧p<n∧p<ns.length∧ns.length≤4000∧n≤4000 ∧
 (∀ j,j<ns.length→∀ k∈(ns.getD j default).kids,0≤k∧k<(j:Int))∧(∀ i,(ns.getD i default).kids.length≤9223372036854775807)∧k (.ret (intV (deepS ns n p))) (deepK ns root++X)
structure DC where
 j:Nat
 d:Nat
theorem deep_ok (n:Nat):COk 135 (cDeep n):=by
 induction n with
 | zero=>rintro args K k ⟨ns,root,p,X,rfl,rfl,h1,h2,_⟩;omega
 | succ n ihn =>
 rintro args K k ⟨ns,root,p,X,rfl,rfl,h1,h2,h3,h4,h5,hsd,hkid,hk⟩
 refine frameS (K0:=deepK ns root) (gput_ok ihn g0_ok) 19 rfl ⟨rfl,rfl,trivial⟩ fun Q hr=>?_
 have hkl:=hkid p.toNat
 conv=>whnf
 refine⟨⟨by omega,by omega,rfl⟩,?_⟩
 conv=>whnf
 obtain⟨ks,hks⟩:∃ ks,(ns.getD p.toNat default).kids=ks:=⟨_,rfl⟩
 have hmem:=hsd p.toNat (by omega)
 simp only [deepS] at hk
 rw [hks] at hkl hmem hk
 refine loop_up (ι:=DC) [1,2,13,14] (fun c=>[(5,.p (.int .i64 (c.d:Int))),(15,.p (.int .i64 (c.j:Int)))]) (fun _=>[])
  (fun c=>c.j≤ks.length∧c.d≤n∧(ks.drop c.j).foldl (fun d k=>max d (deepS ns n k)) c.d=ks.foldl (fun d k=>max d (deepS ns n k)) 0) (fun c=>ks.length - c.j) ⟨0,0⟩
  ⟨AV.le_refl _,AV.le_refl _,trivial⟩ trivial ⟨Nat.zero_le _,Nat.zero_le _,rfl⟩ ?_
 rintro Y hle ⟨j,d⟩ ⟨hj,hd,he⟩ ih
 simp only at hj hd he
 have hdj:decide ((j:Int)<((ns.getD p.toNat default).kids.length:Int))=decide (j<ks.length):=by
  rw [hks]
  by_cases h:j<ks.length
  ·rw [decide_eq_true h,decide_eq_true (by omega)]
  ·rw [decide_eq_false h,decide_eq_false (by omega)]
 conv=>whnf
 refine two_intro (fun h=>?_) (fun h=>?_)
 ·have h:=of_decide_eq_true (hdj▸h)
  have hq:(ns.getD p.toNat default).kids.getD (j:Int).toNat 0=ks[j]:=by rw [hks];simp [h]
  have hqm:=hmem ks[j] (List.getElem_mem h)
  rw [List.drop_eq_getElem_cons h,List.foldl_cons] at he
  conv=>whnf
  refine⟨⟨by omega,by rw [hks];show (j:Int)<(ks.length:Int);omega,rfl⟩,?_⟩
  conv=>whnf
  refine⟨ns,root,_,[],rfl,rfl,by rw [hq];omega,by rw [hq];omega,by rw [hq];omega,h4,by omega,hsd,hkid,?_⟩
  conv=>whnf
  have hdl:=deepS_le ns n ks[j]
  refine hle _ _ (Le.cutEnv 2 rfl rfl ⟨rfl,rfl,trivial⟩ ?e1 ?e2) (ih ⟨j+1,max d (deepS ns n ks[j])⟩ ?_ ⟨?_,?_,he⟩)
  case e1 =>
   have hmx:(if ((deepS ns n ((ns.getD p.toNat default).kids.getD (j:Int).toNat 0):Nat):Int)>(d:Int) then ((deepS ns n ((ns.getD p.toNat default).kids.getD (j:Int).toNat 0):Nat):Int) else (d:Int))=((max d (deepS ns n ks[j]):Nat):Int):=by
    rw [hq]
    split<;>omega
   (conv=>whnf)
   refine⟨AV.le_of_eq (congrArg (fun x=>AV.p (.int .i64 x)) hmx),?_⟩
   (conv=>whnf)
   refine⟨AV.le_of_eq (congrArg (fun x=>AV.p (.int .i64 x)) (show IntKind.i64.wrap ((j:Int)+1)=((j+1:Nat):Int) by rw [w64 ⟨by omega,by omega⟩];omega)),?_⟩
   (conv=>whnf)
   refine⟨AV.le_refl _,?_⟩
   (conv=>whnf)
   refine⟨AV.le_refl _,?_⟩
   (conv=>whnf)
   refine⟨AV.le_refl _,?_⟩
   (conv=>whnf)
   refine⟨AV.le_refl _,?_⟩
   (conv=>whnf)
   exact trivial
  case e2 =>
   (conv=>whnf)
   refine⟨ABlk.le_refl _,?_⟩
   (conv=>whnf)
   refine⟨ABlk.le_refl _,?_⟩
   (conv=>whnf)
   exact trivial
  ·show ks.length - (j+1)<ks.length - j
   omega
  ·show j+1≤ks.length
   omega
  ·exact Nat.max_le.2 ⟨hd,hdl⟩
 ·have h:=of_decide_eq_false (hdj▸h)
  rw [List.drop_of_length_le (by omega),List.foldl_nil] at he
  have hw:IntKind.i64.wrap ((d:Int)+1)=((ks.foldl (fun d k=>max d (deepS ns n k)) 0+1:Nat):Int):=by rw [w64 ⟨by omega,by omega⟩];omega
  rw [← hw] at hk
  conv=>whnf
  exact hr _ _ rfl (Nat.le_refl _) rfl hk
def gR2:AG:=gput 85 cSound (gput 135 (cDeep 4000) g0)
theorem gR2_ok:GOk Tryz.prog gR2:=gput_ok sound_ok (gput_ok (deep_ok 4000) g0_ok)
def cDepth:AC:=fun args K k=>∃ (ns:List Nd) (root:Int),args=[treeV ns root]∧ns.length<1000000∧k (.ret (intV (depthS ns root))) K
theorem deepS_more (ns:List Nd) (hsd:∀ j,j<ns.length→∀ k∈(ns.getD j default).kids,0≤k∧k<(j:Int)):∀ (n m:Nat) (p:Int),0≤p→p<n→p<ns.length→n≤m→deepS ns n p=deepS ns m p:=by
 intro n
 induction n with
 | zero=>intro m p h1 h2;omega
 | succ n ih =>
  intro m p h1 h2 h3 hm
  obtain⟨m,rfl⟩:∃ i,m=i+1:=⟨m - 1,by omega⟩
  simp only [deepS]
  have hk:=hsd p.toNat (by omega)
  generalize (ns.getD p.toNat default).kids=ks at hk
  have:∀ d,ks.foldl (fun d k=>max d (deepS ns n k)) d=ks.foldl (fun d k=>max d (deepS ns m k)) d:=by
   induction ks with
   | nil=>intro d;rfl
   | cons q ks ihk =>
    intro d
    have hq:=hk q (List.mem_cons_self ..)
    simp only [List.foldl_cons]
    rw [ih m q (by omega) (by omega) (by omega) (by omega)]
    exact ihk (fun k hk'=>hk k (List.mem_cons_of_mem _ hk')) _
  rw [this]
theorem depth_ok:COk 86 cDepth:=by
 rintro args K k ⟨ns,root,rfl,hn,hk⟩
 refine ACalls.fact (ent_ok ⟨_,rfl,rfl⟩) (c:=∀ i,(ns.getD i default).kids.length≤9223372036854775807) (fun w m Args hS hV=>?_) fun hkid=>?_
 ·have h0:=hV.2 0 (by simp) (by have:=hV.1;simp at this;omega)
  simp only [List.getElem_cons_zero,treeV] at h0
  generalize Args[0]'(by have:=hV.1;simp at this;omega)=u at h0
  cases h0 with
  | agg cs A hA h =>
   have h1:=h 0 (by simp) (by simp at hA;omega)
   simp only [List.getElem_cons_zero] at h1
   generalize A[0]'(by simp at hA;omega)=u1 at h1
   cases h1 with
   | p _ _ h=>exact kids_bound h
 refine frame0P gR2_ok 19 rfl fun Q hr=>?_
 conv=>whnf
 refine⟨ns,root,rfl,hn,?_⟩
 cases hs:soundS ns root with
 | false =>
  conv=>whnf
  simp only [depthS,hs] at hk
  exact hr _ _ rfl hk
 | true =>
  obtain⟨h1,h2,h3,h4⟩:=soundS_ok hs
  conv=>whnf
  refine⟨ns,root,root,[],rfl,rfl,by omega,by omega,by omega,h2,Nat.le_refl _,h4,hkid,?_⟩
  simp only [depthS,hs] at hk
  rw [deepS_more ns h4 ns.length 4000 root (by omega) (by omega) (by omega) h2] at hk
  conv=>whnf
  exact hr _ _ rfl hk
end Go.Proofs.YtojjkleplnijaaaGreatDoor
namespace Go.AE
theorem two_dec {p:Prop} [Decidable p] {x y:Prop} (h:p→x) (h':¬p→y):two (decide p) x y :=
 two_intro (fun e=>h (of_decide_eq_true e)) (fun e=>h' (of_decide_eq_false e))
theorem two_eq {α:Type} [BEq α] [LawfulBEq α] {a b:α} {x y:Prop} (h:a=b→x) (h':a≠b→y):two (a==b) x y :=
 two_intro (fun e=>h (beq_iff_eq.1 e)) (fun e=>h' (beq_eq_false_iff_ne.1 e))
theorem two_ne {α:Type} [BEq α] [LawfulBEq α] {a b:α} {x y:Prop} (h:a≠b→x) (h':a=b→y):two (a != b) x y :=
 two_intro (fun e=>h (by simpa using e)) (fun e=>h' (by simpa using e))
theorem two_not {b:Bool} {x y:Prop} (h:b=false→x) (h':b=true→y):two (!b) x y :=
 two_intro (fun e=>h (by simpa using e)) (fun e=>h' (by simpa using e))
theorem ret_eq {k:AO→List ABlk→Prop} {K:List ABlk} {a b:AV} (hk:k (.ret a) K) (h:a=b):k (.ret b) K:=h▸hk
end Go.AE
namespace Go.Proofs.YtojjkleplnijaaaGreatDoor
open Go.AE Go.Ru
set_option maxRecDepth 100000
set_option maxHeartbeats 1000000
def nodeV (n:Nd):AV:=.agg [.p (.int .i64 n.k),.p (.int .i64 n.n),.p (.int .i64 n.at_),.p (.str n.tx),.p (.sl 1 n.kids.length (kidF n.kids))]
def gN:AG:=gput 137 cIdentT gL
theorem gN_ok:GOk Tryz.prog gN:=gput_ok identT_ok gL_ok
def cNumber:AC:=fun args K k=>∃ n,args=[nodeV n]∧k (.ret (.p (.bool (numberS n.k n.n)))) K
theorem number_ok:COk 90 cNumber:=by
  rintro args K k ⟨n,rfl,hk⟩
  refine frame0P gN_ok 19 rfl fun Q hr=>?_
  conv=>whnf
  repeat' (first|((first|refine two_eq ?_ ?_|refine two_ne ?_ ?_|refine two_not ?_ ?_|refine two_dec ?_ ?_|refine two_intro ?_ ?_)<;>intro h<;>conv=>whnf)|((first|refine Chk.mk ?_ ?_|refine And.intro ?_ ?_);(focus (((repeat' (refine And.intro ?_ ?_))<;>(first|omega|rfl|(simp only [List.length_append,List.length_cons,List.length_nil];omega)|fail));done));conv=>whnf)|(refine Exists.intro _ (And.intro rfl ?_))|(refine Exists.intro _ (Exists.intro _ (And.intro rfl ?_)))|(refine Exists.intro _ (Exists.intro _ (Exists.intro _ (And.intro rfl ?_))))|fail)
  all_goals exact hr _ _ rfl (ret_eq hk (by simp [numberS, *]))
def cText:AC:=fun args K k=>∃ n,args=[nodeV n]∧n.tx.length<1000000∧k (.ret (.p (.bool (textS n.k n.tx)))) K
theorem text_ok:COk 89 cText:=by
  rintro args K k ⟨n,rfl,hl,hk⟩
  refine frame0P gN_ok 19 rfl fun Q hr=>?_
  conv=>whnf
  repeat' (first|((first|refine two_eq ?_ ?_|refine two_ne ?_ ?_|refine two_not ?_ ?_|refine two_dec ?_ ?_|refine two_intro ?_ ?_)<;>intro h<;>conv=>whnf)|((first|refine Chk.mk ?_ ?_|refine And.intro ?_ ?_);(focus (((repeat' (refine And.intro ?_ ?_))<;>(first|omega|rfl|(simp only [List.length_append,List.length_cons,List.length_nil];omega)|fail));done));conv=>whnf)|(refine Exists.intro _ (And.intro rfl ?_))|(refine Exists.intro _ (Exists.intro _ (And.intro rfl ?_)))|(refine Exists.intro _ (Exists.intro _ (Exists.intro _ (And.intro rfl ?_))))|fail)
  all_goals exact hr _ _ rfl (ret_eq hk (by clear hr hk;(first|(simp_all [textS,signedP,signsT,show (Int.toNat 32).toUInt8=32 from rfl];done)|(simp_all [textS,signedP,signsT,show (Int.toNat 32).toUInt8=32 from rfl]<;>(try intros)<;>omega))))
theorem frameG {G:AG} (hG:GOk Tryz.prog G) (n:Nat) {f:FuncId} {args:List AV} {K0 X:List ABlk} {k:AO→List ABlk→Prop} (hcl:AV.cls K0.length args=true) (hK:clK K0.length K0)
    (h:∀ Q:AO→List ABlk→Prop,(∀ v K' v' K1,v'.cl K0.length=true→K1.length=K0.length→clK K0.length K1→v.le v'→lesK (takeN K' K0.length) K1→k (.ret v') (K1++X)→Q (.ret v) K')→acall1 T0 G n f args K0 Q) :
    ACalls Tryz.prog f args (K0++X) k:=by
  refine (ACalls.frame (K0:=K0) (k:=fun ao K1=>k ao (K1++X)) hcl (fun r _=>clK.hp hK r)
    (ACalls.post (k:=fun ao K1=>∃ v K' v' K2,ao=.ret v∧K1=K'∧v'.cl K0.length=true∧K2.length=K0.length∧clK K0.length K2∧v.le v'∧lesK (takeN K' K0.length) K2∧k (.ret v') (K2++X)) (call_ok hG n f args _ _ (h _ ?_)) ?_)).mono ?_
  · intro v K' v' K1 h1 h2 h3 h4 h5 h6
    exact⟨v,K',v',K1,rfl,rfl,h1,h2,h3,h4,h5,h6⟩
  · rintro _ K' ⟨v,_,v',K2,rfl,rfl,h1,h2,h3,h4,h5,h6⟩
    have e:∀ (K2 L:List ABlk),takeN (K2++L) K2.length=K2:=fun K2 L=>by
      induction K2 with
      | nil=>exact takeN_zero _
      | cons a l ih=>simp only [List.cons_append,List.length_cons,takeN];rw [ih]
    have e:=e K2 (dropN K' K0.length)
    rw [h2] at e
    refine⟨v',K2++dropN K' K0.length,Wk1.le h4 h5.head,h1,?_,fun r hr=>?_,?_⟩
    · simp [h2]
    · rw [hp_append,if_pos (by omega)];exact clK.hp h3 r
    · show k (.ret v') (takeN _ K0.length++X)
      rw [e];exact h6
  · rintro ao K ⟨K1,rfl,h⟩;exact h
def kidsK (ns:List Nd) (root:Int) (n:Nd) (i:Int):List ABlk:=[.box 24 [.p (.sl 5 ns.length (nodeF ns)),.p (.int .i64 root)],.box 61 [.p (.int .i64 n.k),.p (.int .i64 n.n),.p (.int .i64 n.at_),.p (.str n.tx),.p (.sl 1 n.kids.length (kidF n.kids))],.box 3 [intV i]]
def ibox (c:Int):ABlk:=.box 3 [intV c]
def SoV (so:AV) (p:Int→Bool) (X:List ABlk):Prop:=(so=.p (.fn 144)∧p=stB∧(X=[]∨∃ a,X=[ibox a]))∨(so=.p (.fn 145)∧p=exB∧(X=[]∨∃ a,X=[ibox a])) ∨
  ∃ c,p=(fun k=>k==c)∧((so=.fn 142 [] [.ptr 3 0 1 0 0]∧X=[ibox c])∨(∃ a,so=.fn 142 [] [.ptr 4 0 1 0 0]∧X=[ibox a,ibox c])∨∃ a b,so=.fn 142 [] [.ptr 5 0 1 0 0]∧X=[ibox a,ibox b,ibox c])
def cTakeK:AC:=fun args K k=>∃ (ns:List Nd) (root:Int) (n:Nd) (i m:Nat) (ii mm:Int) (so:AV) (p:Int→Bool) (X:List ABlk),args=[.p (.int .i64 mm),so,.ptr 2 0 1 0 0,.ptr 1 0 1 0 0,.ptr 0 0 1 0 0]∧K=kidsK ns root n ii++X∧ii=i∧mm=m∧m≤4000∧n.kids.length≤4000 ∧
  (∀ q∈n.kids,0≤q∧q<ns.length)∧SoV so p X∧k (.ret (intV (cntS p m ((kindsS ns n).drop i)))) (kidsK ns root n ((i+cntS p m ((kindsS ns n).drop i):Nat):Int)++X)
theorem take_ok':COk 140 cTakeK:=by
  rintro args K k ⟨ns,root,n,i,m,ii,mm,so,p,X,rfl,rfl,rfl,rfl,hm,hn,hq,hso,hk⟩
  rcases hso with ⟨rfl,rfl,rfl|⟨a,rfl⟩⟩|⟨rfl,rfl,rfl|⟨a,rfl⟩⟩|⟨c,rfl,⟨rfl,rfl⟩|⟨a,rfl,rfl⟩|⟨a,b,rfl,rfl⟩⟩
  · skip
    refine frameG (K0:=kidsK ns root n i) (X:=[]) gN_ok 19 rfl (by repeat' (first|exact trivial|exact rfl|(refine And.intro ?_ ?_)|fail)) fun Q hr=>?_
    conv=>whnf
    refine loop_up (ι:=Nat) [0,1,2,3,4,8] (fun _=>[]) (fun j=>[(2,.box 3 [.p (.int .i64 ((i+j:Nat):Int))])])
      (fun j=>j≤m∧(j=0∨i+j≤n.kids.length)∧cntS stB m ((kindsS ns n).drop i)=j+cntS stB (m - j) ((kindsS ns n).drop (i+j))) (fun j=>n.kids.length - (i+j)) 0 trivial ⟨upLe1 rfl (ABlk.le_refl _),trivial⟩ ⟨Nat.zero_le _,.inl rfl,by simp⟩ ?_
    rintro Y hle j ⟨hj,hij,he⟩ ih
    have hw:IntKind.i64.wrap (((i+j:Nat):Int) - (i:Int))=j:=by rw [w64 ⟨by omega,by omega⟩];omega
    have hw1:i+j<n.kids.length→IntKind.i64.wrap (((i+j:Nat):Int)+1)=((i+(j+1):Nat):Int):=fun h=>by rw [w64 ⟨by omega,by omega⟩];omega
    have hg:i+j<n.kids.length→0≤n.kids.getD ((i+j:Nat):Int).toNat 0∧n.kids.getD ((i+j:Nat):Int).toNat 0<ns.length:=fun h=>hq _ (by rw [Int.toNat_natCast,List.getD_eq_getElem?_getD,List.getElem?_eq_getElem h];exact List.getElem_mem h)
    have hkd:i+j<n.kids.length→(kindsS ns n).drop (i+j)=(ns.getD (n.kids.getD ((i+j:Nat):Int).toNat 0).toNat default).k::(kindsS ns n).drop (i+(j+1)):=fun h=>by
      have h2:i+j<(kindsS ns n).length:=by simpa [kindsS] using h
      have e:(kindsS ns n)[i+j]=(ns.getD (n.kids.getD (i+j) 0).toNat default).k:=by simp [kindsS,h]
      rw [List.drop_eq_getElem_cons h2,e,Int.toNat_natCast,Nat.add_assoc]
    have hend:n.kids.length≤i+j→(kindsS ns n).drop (i+j)=[]:=fun h=>List.drop_of_length_le (by simpa [kindsS] using h)
    conv=>whnf
    repeat' (first|((first|refine two_eq ?_ ?_|refine two_ne ?_ ?_|refine two_not ?_ ?_|refine two_dec ?_ ?_|refine two_intro ?_ ?_)<;>intro h<;>conv=>whnf)|((first|refine Chk.mk ?_ ?_|refine And.intro ?_ ?_);(focus (((repeat' (refine And.intro ?_ ?_))<;>(first|omega|rfl|(simp only [List.length_append,List.length_cons,List.length_nil];omega)|fail));done));conv=>whnf)|(refine Exists.intro _ (And.intro rfl ?_))|(refine Exists.intro _ (Exists.intro _ (And.intro rfl ?_)))|(refine Exists.intro _ (Exists.intro _ (Exists.intro _ (And.intro rfl ?_))))|fail)
    all_goals first
    | (have h0:cntS stB (m - j) ((kindsS ns n).drop (i+j))=0:=by
        first
        | (rw [hend (by omega)];cases (m - j)<;>rfl)
        | (rw [show m - j=0 by omega];rfl)
        | (rw [hkd (by omega),show m - j=(m - j - 1)+1 by omega,cnt_f];(simp only [stB,exB,Bool.and_eq_true,Bool.and_eq_false_iff,decide_eq_true_eq,decide_eq_false_iff_not,beq_iff_eq,beq_eq_false_iff_ne];omega))
        | fail
       have he:cntS stB m ((kindsS ns n).drop i)=j:=by rw [he,h0];rfl
       rw [he] at hk
       exact hr _ _ (intV (j:Int)) (kidsK ns root n ((i+j:Nat):Int)++[]) rfl rfl (by repeat' (first|exact trivial|exact rfl|(refine And.intro ?_ ?_)|fail)) (AV.le_of_eq (congrArg intV hw)) (lesK.refl _) (by rw [List.append_nil];exact hk))
    | (have hw1:=hw1 (by omega)
       refine hle _ _ (Le.env ?_ ?_) (ih (j+1) (by omega) ⟨by omega,by omega,?_⟩)
       · skip
         repeat' (first|exact trivial|((conv=>whnf);first|exact trivial|refine⟨AV.le_refl _,?_⟩|refine⟨ABlk.le_refl _,?_⟩|fail)|fail)
       · skip
         repeat' (first|exact trivial|((conv=>whnf);first|exact trivial|refine⟨AV.le_refl _,?_⟩|refine⟨ABlk.le_refl _,?_⟩|(refine⟨AV.le_of_eq ?_,?_⟩;focus ((first|exact congrArg (fun x=>ABlk.box 3 [.p (.int .i64 x)]) hw1|fail);done))|(refine⟨ABlk.le_of_eq ?_,?_⟩;focus ((first|exact congrArg (fun x=>ABlk.box 3 [.p (.int .i64 x)]) hw1|fail);done))|fail)|fail)
       · rw [he,hkd (by omega),show m - j=(m - (j+1))+1 by omega,cnt_t (by (simp only [stB,exB,Bool.and_eq_true,Bool.and_eq_false_iff,decide_eq_true_eq,decide_eq_false_iff_not,beq_iff_eq,beq_eq_false_iff_ne];omega))];omega)
    | fail
  · skip
    refine frameG (K0:=kidsK ns root n i++[ibox a]) (X:=[]) gN_ok 19 rfl (by repeat' (first|exact trivial|exact rfl|(refine And.intro ?_ ?_)|fail)) fun Q hr=>?_
    conv=>whnf
    refine loop_up (ι:=Nat) [0,1,2,3,4,8] (fun _=>[]) (fun j=>[(2,.box 3 [.p (.int .i64 ((i+j:Nat):Int))])])
      (fun j=>j≤m∧(j=0∨i+j≤n.kids.length)∧cntS stB m ((kindsS ns n).drop i)=j+cntS stB (m - j) ((kindsS ns n).drop (i+j))) (fun j=>n.kids.length - (i+j)) 0 trivial ⟨upLe1 rfl (ABlk.le_refl _),trivial⟩ ⟨Nat.zero_le _,.inl rfl,by simp⟩ ?_
    rintro Y hle j ⟨hj,hij,he⟩ ih
    have hw:IntKind.i64.wrap (((i+j:Nat):Int) - (i:Int))=j:=by rw [w64 ⟨by omega,by omega⟩];omega
    have hw1:i+j<n.kids.length→IntKind.i64.wrap (((i+j:Nat):Int)+1)=((i+(j+1):Nat):Int):=fun h=>by rw [w64 ⟨by omega,by omega⟩];omega
    have hg:i+j<n.kids.length→0≤n.kids.getD ((i+j:Nat):Int).toNat 0∧n.kids.getD ((i+j:Nat):Int).toNat 0<ns.length:=fun h=>hq _ (by rw [Int.toNat_natCast,List.getD_eq_getElem?_getD,List.getElem?_eq_getElem h];exact List.getElem_mem h)
    have hkd:i+j<n.kids.length→(kindsS ns n).drop (i+j)=(ns.getD (n.kids.getD ((i+j:Nat):Int).toNat 0).toNat default).k::(kindsS ns n).drop (i+(j+1)):=fun h=>by
      have h2:i+j<(kindsS ns n).length:=by simpa [kindsS] using h
      have e:(kindsS ns n)[i+j]=(ns.getD (n.kids.getD (i+j) 0).toNat default).k:=by simp [kindsS,h]
      rw [List.drop_eq_getElem_cons h2,e,Int.toNat_natCast,Nat.add_assoc]
    have hend:n.kids.length≤i+j→(kindsS ns n).drop (i+j)=[]:=fun h=>List.drop_of_length_le (by simpa [kindsS] using h)
    conv=>whnf
    repeat' (first|((first|refine two_eq ?_ ?_|refine two_ne ?_ ?_|refine two_not ?_ ?_|refine two_dec ?_ ?_|refine two_intro ?_ ?_)<;>intro h<;>conv=>whnf)|((first|refine Chk.mk ?_ ?_|refine And.intro ?_ ?_);(focus (((repeat' (refine And.intro ?_ ?_))<;>(first|omega|rfl|(simp only [List.length_append,List.length_cons,List.length_nil];omega)|fail));done));conv=>whnf)|(refine Exists.intro _ (And.intro rfl ?_))|(refine Exists.intro _ (Exists.intro _ (And.intro rfl ?_)))|(refine Exists.intro _ (Exists.intro _ (Exists.intro _ (And.intro rfl ?_))))|fail)
    all_goals first
    | (have h0:cntS stB (m - j) ((kindsS ns n).drop (i+j))=0:=by
        first
        | (rw [hend (by omega)];cases (m - j)<;>rfl)
        | (rw [show m - j=0 by omega];rfl)
        | (rw [hkd (by omega),show m - j=(m - j - 1)+1 by omega,cnt_f];(simp only [stB,exB,Bool.and_eq_true,Bool.and_eq_false_iff,decide_eq_true_eq,decide_eq_false_iff_not,beq_iff_eq,beq_eq_false_iff_ne];omega))
        | fail
       have he:cntS stB m ((kindsS ns n).drop i)=j:=by rw [he,h0];rfl
       rw [he] at hk
       exact hr _ _ (intV (j:Int)) (kidsK ns root n ((i+j:Nat):Int)++[ibox a]) rfl rfl (by repeat' (first|exact trivial|exact rfl|(refine And.intro ?_ ?_)|fail)) (AV.le_of_eq (congrArg intV hw)) (lesK.refl _) (by rw [List.append_nil];exact hk))
    | (have hw1:=hw1 (by omega)
       refine hle _ _ (Le.env ?_ ?_) (ih (j+1) (by omega) ⟨by omega,by omega,?_⟩)
       · skip
         repeat' (first|exact trivial|((conv=>whnf);first|exact trivial|refine⟨AV.le_refl _,?_⟩|refine⟨ABlk.le_refl _,?_⟩|fail)|fail)
       · skip
         repeat' (first|exact trivial|((conv=>whnf);first|exact trivial|refine⟨AV.le_refl _,?_⟩|refine⟨ABlk.le_refl _,?_⟩|(refine⟨AV.le_of_eq ?_,?_⟩;focus ((first|exact congrArg (fun x=>ABlk.box 3 [.p (.int .i64 x)]) hw1|fail);done))|(refine⟨ABlk.le_of_eq ?_,?_⟩;focus ((first|exact congrArg (fun x=>ABlk.box 3 [.p (.int .i64 x)]) hw1|fail);done))|fail)|fail)
       · rw [he,hkd (by omega),show m - j=(m - (j+1))+1 by omega,cnt_t (by (simp only [stB,exB,Bool.and_eq_true,Bool.and_eq_false_iff,decide_eq_true_eq,decide_eq_false_iff_not,beq_iff_eq,beq_eq_false_iff_ne];omega))];omega)
    | fail
  · skip
    refine frameG (K0:=kidsK ns root n i) (X:=[]) gN_ok 19 rfl (by repeat' (first|exact trivial|exact rfl|(refine And.intro ?_ ?_)|fail)) fun Q hr=>?_
    conv=>whnf
    refine loop_up (ι:=Nat) [0,1,2,3,4,8] (fun _=>[]) (fun j=>[(2,.box 3 [.p (.int .i64 ((i+j:Nat):Int))])])
      (fun j=>j≤m∧(j=0∨i+j≤n.kids.length)∧cntS exB m ((kindsS ns n).drop i)=j+cntS exB (m - j) ((kindsS ns n).drop (i+j))) (fun j=>n.kids.length - (i+j)) 0 trivial ⟨upLe1 rfl (ABlk.le_refl _),trivial⟩ ⟨Nat.zero_le _,.inl rfl,by simp⟩ ?_
    rintro Y hle j ⟨hj,hij,he⟩ ih
    have hw:IntKind.i64.wrap (((i+j:Nat):Int) - (i:Int))=j:=by rw [w64 ⟨by omega,by omega⟩];omega
    have hw1:i+j<n.kids.length→IntKind.i64.wrap (((i+j:Nat):Int)+1)=((i+(j+1):Nat):Int):=fun h=>by rw [w64 ⟨by omega,by omega⟩];omega
    have hg:i+j<n.kids.length→0≤n.kids.getD ((i+j:Nat):Int).toNat 0∧n.kids.getD ((i+j:Nat):Int).toNat 0<ns.length:=fun h=>hq _ (by rw [Int.toNat_natCast,List.getD_eq_getElem?_getD,List.getElem?_eq_getElem h];exact List.getElem_mem h)
    have hkd:i+j<n.kids.length→(kindsS ns n).drop (i+j)=(ns.getD (n.kids.getD ((i+j:Nat):Int).toNat 0).toNat default).k::(kindsS ns n).drop (i+(j+1)):=fun h=>by
      have h2:i+j<(kindsS ns n).length:=by simpa [kindsS] using h
      have e:(kindsS ns n)[i+j]=(ns.getD (n.kids.getD (i+j) 0).toNat default).k:=by simp [kindsS,h]
      rw [List.drop_eq_getElem_cons h2,e,Int.toNat_natCast,Nat.add_assoc]
    have hend:n.kids.length≤i+j→(kindsS ns n).drop (i+j)=[]:=fun h=>List.drop_of_length_le (by simpa [kindsS] using h)
    conv=>whnf
    repeat' (first|((first|refine two_eq ?_ ?_|refine two_ne ?_ ?_|refine two_not ?_ ?_|refine two_dec ?_ ?_|refine two_intro ?_ ?_)<;>intro h<;>conv=>whnf)|((first|refine Chk.mk ?_ ?_|refine And.intro ?_ ?_);(focus (((repeat' (refine And.intro ?_ ?_))<;>(first|omega|rfl|(simp only [List.length_append,List.length_cons,List.length_nil];omega)|fail));done));conv=>whnf)|(refine Exists.intro _ (And.intro rfl ?_))|(refine Exists.intro _ (Exists.intro _ (And.intro rfl ?_)))|(refine Exists.intro _ (Exists.intro _ (Exists.intro _ (And.intro rfl ?_))))|fail)
    all_goals first
    | (have h0:cntS exB (m - j) ((kindsS ns n).drop (i+j))=0:=by
        first
        | (rw [hend (by omega)];cases (m - j)<;>rfl)
        | (rw [show m - j=0 by omega];rfl)
        | (rw [hkd (by omega),show m - j=(m - j - 1)+1 by omega,cnt_f];(simp only [stB,exB,Bool.and_eq_true,Bool.and_eq_false_iff,decide_eq_true_eq,decide_eq_false_iff_not,beq_iff_eq,beq_eq_false_iff_ne];omega))
        | fail
       have he:cntS exB m ((kindsS ns n).drop i)=j:=by rw [he,h0];rfl
       rw [he] at hk
       exact hr _ _ (intV (j:Int)) (kidsK ns root n ((i+j:Nat):Int)++[]) rfl rfl (by repeat' (first|exact trivial|exact rfl|(refine And.intro ?_ ?_)|fail)) (AV.le_of_eq (congrArg intV hw)) (lesK.refl _) (by rw [List.append_nil];exact hk))
    | (have hw1:=hw1 (by omega)
       refine hle _ _ (Le.env ?_ ?_) (ih (j+1) (by omega) ⟨by omega,by omega,?_⟩)
       · skip
         repeat' (first|exact trivial|((conv=>whnf);first|exact trivial|refine⟨AV.le_refl _,?_⟩|refine⟨ABlk.le_refl _,?_⟩|fail)|fail)
       · skip
         repeat' (first|exact trivial|((conv=>whnf);first|exact trivial|refine⟨AV.le_refl _,?_⟩|refine⟨ABlk.le_refl _,?_⟩|(refine⟨AV.le_of_eq ?_,?_⟩;focus ((first|exact congrArg (fun x=>ABlk.box 3 [.p (.int .i64 x)]) hw1|fail);done))|(refine⟨ABlk.le_of_eq ?_,?_⟩;focus ((first|exact congrArg (fun x=>ABlk.box 3 [.p (.int .i64 x)]) hw1|fail);done))|fail)|fail)
       · rw [he,hkd (by omega),show m - j=(m - (j+1))+1 by omega,cnt_t (by (simp only [stB,exB,Bool.and_eq_true,Bool.and_eq_false_iff,decide_eq_true_eq,decide_eq_false_iff_not,beq_iff_eq,beq_eq_false_iff_ne];omega))];omega)
    | fail
  · skip
    refine frameG (K0:=kidsK ns root n i++[ibox a]) (X:=[]) gN_ok 19 rfl (by repeat' (first|exact trivial|exact rfl|(refine And.intro ?_ ?_)|fail)) fun Q hr=>?_
    conv=>whnf
    refine loop_up (ι:=Nat) [0,1,2,3,4,8] (fun _=>[]) (fun j=>[(2,.box 3 [.p (.int .i64 ((i+j:Nat):Int))])])
      (fun j=>j≤m∧(j=0∨i+j≤n.kids.length)∧cntS exB m ((kindsS ns n).drop i)=j+cntS exB (m - j) ((kindsS ns n).drop (i+j))) (fun j=>n.kids.length - (i+j)) 0 trivial ⟨upLe1 rfl (ABlk.le_refl _),trivial⟩ ⟨Nat.zero_le _,.inl rfl,by simp⟩ ?_
    rintro Y hle j ⟨hj,hij,he⟩ ih
    have hw:IntKind.i64.wrap (((i+j:Nat):Int) - (i:Int))=j:=by rw [w64 ⟨by omega,by omega⟩];omega
    have hw1:i+j<n.kids.length→IntKind.i64.wrap (((i+j:Nat):Int)+1)=((i+(j+1):Nat):Int):=fun h=>by rw [w64 ⟨by omega,by omega⟩];omega
    have hg:i+j<n.kids.length→0≤n.kids.getD ((i+j:Nat):Int).toNat 0∧n.kids.getD ((i+j:Nat):Int).toNat 0<ns.length:=fun h=>hq _ (by rw [Int.toNat_natCast,List.getD_eq_getElem?_getD,List.getElem?_eq_getElem h];exact List.getElem_mem h)
    have hkd:i+j<n.kids.length→(kindsS ns n).drop (i+j)=(ns.getD (n.kids.getD ((i+j:Nat):Int).toNat 0).toNat default).k::(kindsS ns n).drop (i+(j+1)):=fun h=>by
      have h2:i+j<(kindsS ns n).length:=by simpa [kindsS] using h
      have e:(kindsS ns n)[i+j]=(ns.getD (n.kids.getD (i+j) 0).toNat default).k:=by simp [kindsS,h]
      rw [List.drop_eq_getElem_cons h2,e,Int.toNat_natCast,Nat.add_assoc]
    have hend:n.kids.length≤i+j→(kindsS ns n).drop (i+j)=[]:=fun h=>List.drop_of_length_le (by simpa [kindsS] using h)
    conv=>whnf
    repeat' (first|((first|refine two_eq ?_ ?_|refine two_ne ?_ ?_|refine two_not ?_ ?_|refine two_dec ?_ ?_|refine two_intro ?_ ?_)<;>intro h<;>conv=>whnf)|((first|refine Chk.mk ?_ ?_|refine And.intro ?_ ?_);(focus (((repeat' (refine And.intro ?_ ?_))<;>(first|omega|rfl|(simp only [List.length_append,List.length_cons,List.length_nil];omega)|fail));done));conv=>whnf)|(refine Exists.intro _ (And.intro rfl ?_))|(refine Exists.intro _ (Exists.intro _ (And.intro rfl ?_)))|(refine Exists.intro _ (Exists.intro _ (Exists.intro _ (And.intro rfl ?_))))|fail)
    all_goals first
    | (have h0:cntS exB (m - j) ((kindsS ns n).drop (i+j))=0:=by
        first
        | (rw [hend (by omega)];cases (m - j)<;>rfl)
        | (rw [show m - j=0 by omega];rfl)
        | (rw [hkd (by omega),show m - j=(m - j - 1)+1 by omega,cnt_f];(simp only [stB,exB,Bool.and_eq_true,Bool.and_eq_false_iff,decide_eq_true_eq,decide_eq_false_iff_not,beq_iff_eq,beq_eq_false_iff_ne];omega))
        | fail
       have he:cntS exB m ((kindsS ns n).drop i)=j:=by rw [he,h0];rfl
       rw [he] at hk
       exact hr _ _ (intV (j:Int)) (kidsK ns root n ((i+j:Nat):Int)++[ibox a]) rfl rfl (by repeat' (first|exact trivial|exact rfl|(refine And.intro ?_ ?_)|fail)) (AV.le_of_eq (congrArg intV hw)) (lesK.refl _) (by rw [List.append_nil];exact hk))
    | (have hw1:=hw1 (by omega)
       refine hle _ _ (Le.env ?_ ?_) (ih (j+1) (by omega) ⟨by omega,by omega,?_⟩)
       · skip
         repeat' (first|exact trivial|((conv=>whnf);first|exact trivial|refine⟨AV.le_refl _,?_⟩|refine⟨ABlk.le_refl _,?_⟩|fail)|fail)
       · skip
         repeat' (first|exact trivial|((conv=>whnf);first|exact trivial|refine⟨AV.le_refl _,?_⟩|refine⟨ABlk.le_refl _,?_⟩|(refine⟨AV.le_of_eq ?_,?_⟩;focus ((first|exact congrArg (fun x=>ABlk.box 3 [.p (.int .i64 x)]) hw1|fail);done))|(refine⟨ABlk.le_of_eq ?_,?_⟩;focus ((first|exact congrArg (fun x=>ABlk.box 3 [.p (.int .i64 x)]) hw1|fail);done))|fail)|fail)
       · rw [he,hkd (by omega),show m - j=(m - (j+1))+1 by omega,cnt_t (by (simp only [stB,exB,Bool.and_eq_true,Bool.and_eq_false_iff,decide_eq_true_eq,decide_eq_false_iff_not,beq_iff_eq,beq_eq_false_iff_ne];omega))];omega)
    | fail
  · skip
    refine frameG (K0:=kidsK ns root n i++[ibox c]) (X:=[]) gN_ok 19 rfl (by repeat' (first|exact trivial|exact rfl|(refine And.intro ?_ ?_)|fail)) fun Q hr=>?_
    conv=>whnf
    refine loop_up (ι:=Nat) [0,1,2,3,4,8] (fun _=>[]) (fun j=>[(2,.box 3 [.p (.int .i64 ((i+j:Nat):Int))])])
      (fun j=>j≤m∧(j=0∨i+j≤n.kids.length)∧cntS (fun k=>k==c) m ((kindsS ns n).drop i)=j+cntS (fun k=>k==c) (m - j) ((kindsS ns n).drop (i+j))) (fun j=>n.kids.length - (i+j)) 0 trivial ⟨upLe1 rfl (ABlk.le_refl _),trivial⟩ ⟨Nat.zero_le _,.inl rfl,by simp⟩ ?_
    rintro Y hle j ⟨hj,hij,he⟩ ih
    have hw:IntKind.i64.wrap (((i+j:Nat):Int) - (i:Int))=j:=by rw [w64 ⟨by omega,by omega⟩];omega
    have hw1:i+j<n.kids.length→IntKind.i64.wrap (((i+j:Nat):Int)+1)=((i+(j+1):Nat):Int):=fun h=>by rw [w64 ⟨by omega,by omega⟩];omega
    have hg:i+j<n.kids.length→0≤n.kids.getD ((i+j:Nat):Int).toNat 0∧n.kids.getD ((i+j:Nat):Int).toNat 0<ns.length:=fun h=>hq _ (by rw [Int.toNat_natCast,List.getD_eq_getElem?_getD,List.getElem?_eq_getElem h];exact List.getElem_mem h)
    have hkd:i+j<n.kids.length→(kindsS ns n).drop (i+j)=(ns.getD (n.kids.getD ((i+j:Nat):Int).toNat 0).toNat default).k::(kindsS ns n).drop (i+(j+1)):=fun h=>by
      have h2:i+j<(kindsS ns n).length:=by simpa [kindsS] using h
      have e:(kindsS ns n)[i+j]=(ns.getD (n.kids.getD (i+j) 0).toNat default).k:=by simp [kindsS,h]
      rw [List.drop_eq_getElem_cons h2,e,Int.toNat_natCast,Nat.add_assoc]
    have hend:n.kids.length≤i+j→(kindsS ns n).drop (i+j)=[]:=fun h=>List.drop_of_length_le (by simpa [kindsS] using h)
    conv=>whnf
    repeat' (first|((first|refine two_eq ?_ ?_|refine two_ne ?_ ?_|refine two_not ?_ ?_|refine two_dec ?_ ?_|refine two_intro ?_ ?_)<;>intro h<;>conv=>whnf)|((first|refine Chk.mk ?_ ?_|refine And.intro ?_ ?_);(focus (((repeat' (refine And.intro ?_ ?_))<;>(first|omega|rfl|(simp only [List.length_append,List.length_cons,List.length_nil];omega)|fail));done));conv=>whnf)|(refine Exists.intro _ (And.intro rfl ?_))|(refine Exists.intro _ (Exists.intro _ (And.intro rfl ?_)))|(refine Exists.intro _ (Exists.intro _ (Exists.intro _ (And.intro rfl ?_))))|fail)
    all_goals first
    | (have h0:cntS (fun k=>k==c) (m - j) ((kindsS ns n).drop (i+j))=0:=by
        first
        | (rw [hend (by omega)];cases (m - j)<;>rfl)
        | (rw [show m - j=0 by omega];rfl)
        | (rw [hkd (by omega),show m - j=(m - j - 1)+1 by omega,cnt_f];(simp only [stB,exB,Bool.and_eq_true,Bool.and_eq_false_iff,decide_eq_true_eq,decide_eq_false_iff_not,beq_iff_eq,beq_eq_false_iff_ne];omega))
        | fail
       have he:cntS (fun k=>k==c) m ((kindsS ns n).drop i)=j:=by rw [he,h0];rfl
       rw [he] at hk
       exact hr _ _ (intV (j:Int)) (kidsK ns root n ((i+j:Nat):Int)++[ibox c]) rfl rfl (by repeat' (first|exact trivial|exact rfl|(refine And.intro ?_ ?_)|fail)) (AV.le_of_eq (congrArg intV hw)) (lesK.refl _) (by rw [List.append_nil];exact hk))
    | (have hw1:=hw1 (by omega)
       refine hle _ _ (Le.env ?_ ?_) (ih (j+1) (by omega) ⟨by omega,by omega,?_⟩)
       · skip
         repeat' (first|exact trivial|((conv=>whnf);first|exact trivial|refine⟨AV.le_refl _,?_⟩|refine⟨ABlk.le_refl _,?_⟩|fail)|fail)
       · skip
         repeat' (first|exact trivial|((conv=>whnf);first|exact trivial|refine⟨AV.le_refl _,?_⟩|refine⟨ABlk.le_refl _,?_⟩|(refine⟨AV.le_of_eq ?_,?_⟩;focus ((first|exact congrArg (fun x=>ABlk.box 3 [.p (.int .i64 x)]) hw1|fail);done))|(refine⟨ABlk.le_of_eq ?_,?_⟩;focus ((first|exact congrArg (fun x=>ABlk.box 3 [.p (.int .i64 x)]) hw1|fail);done))|fail)|fail)
       · rw [he,hkd (by omega),show m - j=(m - (j+1))+1 by omega,cnt_t (by (simp only [stB,exB,Bool.and_eq_true,Bool.and_eq_false_iff,decide_eq_true_eq,decide_eq_false_iff_not,beq_iff_eq,beq_eq_false_iff_ne];omega))];omega)
    | fail
  · skip
    refine frameG (K0:=kidsK ns root n i++[ibox a,ibox c]) (X:=[]) gN_ok 19 rfl (by repeat' (first|exact trivial|exact rfl|(refine And.intro ?_ ?_)|fail)) fun Q hr=>?_
    conv=>whnf
    refine loop_up (ι:=Nat) [0,1,2,3,4,8] (fun _=>[]) (fun j=>[(2,.box 3 [.p (.int .i64 ((i+j:Nat):Int))])])
      (fun j=>j≤m∧(j=0∨i+j≤n.kids.length)∧cntS (fun k=>k==c) m ((kindsS ns n).drop i)=j+cntS (fun k=>k==c) (m - j) ((kindsS ns n).drop (i+j))) (fun j=>n.kids.length - (i+j)) 0 trivial ⟨upLe1 rfl (ABlk.le_refl _),trivial⟩ ⟨Nat.zero_le _,.inl rfl,by simp⟩ ?_
    rintro Y hle j ⟨hj,hij,he⟩ ih
    have hw:IntKind.i64.wrap (((i+j:Nat):Int) - (i:Int))=j:=by rw [w64 ⟨by omega,by omega⟩];omega
    have hw1:i+j<n.kids.length→IntKind.i64.wrap (((i+j:Nat):Int)+1)=((i+(j+1):Nat):Int):=fun h=>by rw [w64 ⟨by omega,by omega⟩];omega
    have hg:i+j<n.kids.length→0≤n.kids.getD ((i+j:Nat):Int).toNat 0∧n.kids.getD ((i+j:Nat):Int).toNat 0<ns.length:=fun h=>hq _ (by rw [Int.toNat_natCast,List.getD_eq_getElem?_getD,List.getElem?_eq_getElem h];exact List.getElem_mem h)
    have hkd:i+j<n.kids.length→(kindsS ns n).drop (i+j)=(ns.getD (n.kids.getD ((i+j:Nat):Int).toNat 0).toNat default).k::(kindsS ns n).drop (i+(j+1)):=fun h=>by
      have h2:i+j<(kindsS ns n).length:=by simpa [kindsS] using h
      have e:(kindsS ns n)[i+j]=(ns.getD (n.kids.getD (i+j) 0).toNat default).k:=by simp [kindsS,h]
      rw [List.drop_eq_getElem_cons h2,e,Int.toNat_natCast,Nat.add_assoc]
    have hend:n.kids.length≤i+j→(kindsS ns n).drop (i+j)=[]:=fun h=>List.drop_of_length_le (by simpa [kindsS] using h)
    conv=>whnf
    repeat' (first|((first|refine two_eq ?_ ?_|refine two_ne ?_ ?_|refine two_not ?_ ?_|refine two_dec ?_ ?_|refine two_intro ?_ ?_)<;>intro h<;>conv=>whnf)|((first|refine Chk.mk ?_ ?_|refine And.intro ?_ ?_);(focus (((repeat' (refine And.intro ?_ ?_))<;>(first|omega|rfl|(simp only [List.length_append,List.length_cons,List.length_nil];omega)|fail));done));conv=>whnf)|(refine Exists.intro _ (And.intro rfl ?_))|(refine Exists.intro _ (Exists.intro _ (And.intro rfl ?_)))|(refine Exists.intro _ (Exists.intro _ (Exists.intro _ (And.intro rfl ?_))))|fail)
    all_goals first
    | (have h0:cntS (fun k=>k==c) (m - j) ((kindsS ns n).drop (i+j))=0:=by
        first
        | (rw [hend (by omega)];cases (m - j)<;>rfl)
        | (rw [show m - j=0 by omega];rfl)
        | (rw [hkd (by omega),show m - j=(m - j - 1)+1 by omega,cnt_f];(simp only [stB,exB,Bool.and_eq_true,Bool.and_eq_false_iff,decide_eq_true_eq,decide_eq_false_iff_not,beq_iff_eq,beq_eq_false_iff_ne];omega))
        | fail
       have he:cntS (fun k=>k==c) m ((kindsS ns n).drop i)=j:=by rw [he,h0];rfl
       rw [he] at hk
       exact hr _ _ (intV (j:Int)) (kidsK ns root n ((i+j:Nat):Int)++[ibox a,ibox c]) rfl rfl (by repeat' (first|exact trivial|exact rfl|(refine And.intro ?_ ?_)|fail)) (AV.le_of_eq (congrArg intV hw)) (lesK.refl _) (by rw [List.append_nil];exact hk))
    | (have hw1:=hw1 (by omega)
       refine hle _ _ (Le.env ?_ ?_) (ih (j+1) (by omega) ⟨by omega,by omega,?_⟩)
       · skip
         repeat' (first|exact trivial|((conv=>whnf);first|exact trivial|refine⟨AV.le_refl _,?_⟩|refine⟨ABlk.le_refl _,?_⟩|fail)|fail)
       · skip
         repeat' (first|exact trivial|((conv=>whnf);first|exact trivial|refine⟨AV.le_refl _,?_⟩|refine⟨ABlk.le_refl _,?_⟩|(refine⟨AV.le_of_eq ?_,?_⟩;focus ((first|exact congrArg (fun x=>ABlk.box 3 [.p (.int .i64 x)]) hw1|fail);done))|(refine⟨ABlk.le_of_eq ?_,?_⟩;focus ((first|exact congrArg (fun x=>ABlk.box 3 [.p (.int .i64 x)]) hw1|fail);done))|fail)|fail)
       · rw [he,hkd (by omega),show m - j=(m - (j+1))+1 by omega,cnt_t (by (simp only [stB,exB,Bool.and_eq_true,Bool.and_eq_false_iff,decide_eq_true_eq,decide_eq_false_iff_not,beq_iff_eq,beq_eq_false_iff_ne];omega))];omega)
    | fail
  · skip
    refine frameG (K0:=kidsK ns root n i++[ibox a,ibox b,ibox c]) (X:=[]) gN_ok 19 rfl (by repeat' (first|exact trivial|exact rfl|(refine And.intro ?_ ?_)|fail)) fun Q hr=>?_
    conv=>whnf
    refine loop_up (ι:=Nat) [0,1,2,3,4,8] (fun _=>[]) (fun j=>[(2,.box 3 [.p (.int .i64 ((i+j:Nat):Int))])])
      (fun j=>j≤m∧(j=0∨i+j≤n.kids.length)∧cntS (fun k=>k==c) m ((kindsS ns n).drop i)=j+cntS (fun k=>k==c) (m - j) ((kindsS ns n).drop (i+j))) (fun j=>n.kids.length - (i+j)) 0 trivial ⟨upLe1 rfl (ABlk.le_refl _),trivial⟩ ⟨Nat.zero_le _,.inl rfl,by simp⟩ ?_
    rintro Y hle j ⟨hj,hij,he⟩ ih
    have hw:IntKind.i64.wrap (((i+j:Nat):Int) - (i:Int))=j:=by rw [w64 ⟨by omega,by omega⟩];omega
    have hw1:i+j<n.kids.length→IntKind.i64.wrap (((i+j:Nat):Int)+1)=((i+(j+1):Nat):Int):=fun h=>by rw [w64 ⟨by omega,by omega⟩];omega
    have hg:i+j<n.kids.length→0≤n.kids.getD ((i+j:Nat):Int).toNat 0∧n.kids.getD ((i+j:Nat):Int).toNat 0<ns.length:=fun h=>hq _ (by rw [Int.toNat_natCast,List.getD_eq_getElem?_getD,List.getElem?_eq_getElem h];exact List.getElem_mem h)
    have hkd:i+j<n.kids.length→(kindsS ns n).drop (i+j)=(ns.getD (n.kids.getD ((i+j:Nat):Int).toNat 0).toNat default).k::(kindsS ns n).drop (i+(j+1)):=fun h=>by
      have h2:i+j<(kindsS ns n).length:=by simpa [kindsS] using h
      have e:(kindsS ns n)[i+j]=(ns.getD (n.kids.getD (i+j) 0).toNat default).k:=by simp [kindsS,h]
      rw [List.drop_eq_getElem_cons h2,e,Int.toNat_natCast,Nat.add_assoc]
    have hend:n.kids.length≤i+j→(kindsS ns n).drop (i+j)=[]:=fun h=>List.drop_of_length_le (by simpa [kindsS] using h)
    conv=>whnf
    repeat' (first|((first|refine two_eq ?_ ?_|refine two_ne ?_ ?_|refine two_not ?_ ?_|refine two_dec ?_ ?_|refine two_intro ?_ ?_)<;>intro h<;>conv=>whnf)|((first|refine Chk.mk ?_ ?_|refine And.intro ?_ ?_);(focus (((repeat' (refine And.intro ?_ ?_))<;>(first|omega|rfl|(simp only [List.length_append,List.length_cons,List.length_nil];omega)|fail));done));conv=>whnf)|(refine Exists.intro _ (And.intro rfl ?_))|(refine Exists.intro _ (Exists.intro _ (And.intro rfl ?_)))|(refine Exists.intro _ (Exists.intro _ (Exists.intro _ (And.intro rfl ?_))))|fail)
    all_goals first
    | (have h0:cntS (fun k=>k==c) (m - j) ((kindsS ns n).drop (i+j))=0:=by
        first
        | (rw [hend (by omega)];cases (m - j)<;>rfl)
        | (rw [show m - j=0 by omega];rfl)
        | (rw [hkd (by omega),show m - j=(m - j - 1)+1 by omega,cnt_f];(simp only [stB,exB,Bool.and_eq_true,Bool.and_eq_false_iff,decide_eq_true_eq,decide_eq_false_iff_not,beq_iff_eq,beq_eq_false_iff_ne];omega))
        | fail
       have he:cntS (fun k=>k==c) m ((kindsS ns n).drop i)=j:=by rw [he,h0];rfl
       rw [he] at hk
       exact hr _ _ (intV (j:Int)) (kidsK ns root n ((i+j:Nat):Int)++[ibox a,ibox b,ibox c]) rfl rfl (by repeat' (first|exact trivial|exact rfl|(refine And.intro ?_ ?_)|fail)) (AV.le_of_eq (congrArg intV hw)) (lesK.refl _) (by rw [List.append_nil];exact hk))
    | (have hw1:=hw1 (by omega)
       refine hle _ _ (Le.env ?_ ?_) (ih (j+1) (by omega) ⟨by omega,by omega,?_⟩)
       · skip
         repeat' (first|exact trivial|((conv=>whnf);first|exact trivial|refine⟨AV.le_refl _,?_⟩|refine⟨ABlk.le_refl _,?_⟩|fail)|fail)
       · skip
         repeat' (first|exact trivial|((conv=>whnf);first|exact trivial|refine⟨AV.le_refl _,?_⟩|refine⟨ABlk.le_refl _,?_⟩|(refine⟨AV.le_of_eq ?_,?_⟩;focus ((first|exact congrArg (fun x=>ABlk.box 3 [.p (.int .i64 x)]) hw1|fail);done))|(refine⟨ABlk.le_of_eq ?_,?_⟩;focus ((first|exact congrArg (fun x=>ABlk.box 3 [.p (.int .i64 x)]) hw1|fail);done))|fail)|fail)
       · rw [he,hkd (by omega),show m - j=(m - (j+1))+1 by omega,cnt_t (by (simp only [stB,exB,Bool.and_eq_true,Bool.and_eq_false_iff,decide_eq_true_eq,decide_eq_false_iff_not,beq_iff_eq,beq_eq_false_iff_ne];omega))];omega)
    | fail
def gKi:AG:=gput 140 cTakeK gN
theorem gKi_ok:GOk Tryz.prog gKi:=gput_ok take_ok' gN_ok
def cKids:AC:=fun args K k=>∃ ns root n,args=[treeV ns root,nodeV n]∧n.kids.length≤4000∧(∀ q∈n.kids,0≤q∧q<(List.length ns:Int))∧k (.ret (.p (.bool (kidsOkS n.k (kindsS ns n))))) K
theorem kids_ok:COk 91 cKids:=by
  rintro args K k ⟨ns,root,n,rfl,hn,hq,hk⟩
  refine frame0P gKi_ok 19 rfl fun Q hr=>?_
  have hkl:(kindsS ns n).length=n.kids.length:=by simp [kindsS]
  conv=>whnf
  repeat' (first|((first|refine two_eq ?_ ?_|refine two_ne ?_ ?_|refine two_not ?_ ?_|refine two_dec ?_ ?_|refine two_intro ?_ ?_)<;>intro h<;>conv=>whnf)|((first|refine Chk.mk ?_ ?_|refine And.intro ?_ ?_);(focus (((repeat' (refine And.intro ?_ ?_))<;>(first|omega|rfl|(simp only [List.length_append,List.length_cons,List.length_nil];omega)|fail));done));conv=>whnf)|(refine⟨ns,root,n,_,_,_,_,_,_,_,rfl,rfl,(Int.toNat_of_nonneg ?_).symm,(Int.toNat_of_nonneg ?_).symm,?_,hn,hq,.inl ⟨rfl,rfl,.inl rfl⟩,?_⟩;(focus omega);(focus omega);(focus omega);conv=>whnf)|(refine⟨ns,root,n,_,_,_,_,_,_,_,rfl,rfl,(Int.toNat_of_nonneg ?_).symm,(Int.toNat_of_nonneg ?_).symm,?_,hn,hq,.inl ⟨rfl,rfl,.inr ⟨_,rfl⟩⟩,?_⟩;(focus omega);(focus omega);(focus omega);conv=>whnf)|(refine⟨ns,root,n,_,_,_,_,_,_,_,rfl,rfl,(Int.toNat_of_nonneg ?_).symm,(Int.toNat_of_nonneg ?_).symm,?_,hn,hq,.inr (.inl ⟨rfl,rfl,.inl rfl⟩),?_⟩;(focus omega);(focus omega);(focus omega);conv=>whnf)|(refine⟨ns,root,n,_,_,_,_,_,_,_,rfl,rfl,(Int.toNat_of_nonneg ?_).symm,(Int.toNat_of_nonneg ?_).symm,?_,hn,hq,.inr (.inl ⟨rfl,rfl,.inr ⟨_,rfl⟩⟩),?_⟩;(focus omega);(focus omega);(focus omega);conv=>whnf)|(refine⟨ns,root,n,_,_,_,_,_,_,_,rfl,rfl,(Int.toNat_of_nonneg ?_).symm,(Int.toNat_of_nonneg ?_).symm,?_,hn,hq,.inr (.inr ⟨_,rfl,.inl ⟨rfl,rfl⟩⟩),?_⟩;(focus omega);(focus omega);(focus omega);conv=>whnf)|(refine⟨ns,root,n,_,_,_,_,_,_,_,rfl,rfl,(Int.toNat_of_nonneg ?_).symm,(Int.toNat_of_nonneg ?_).symm,?_,hn,hq,.inr (.inr ⟨_,rfl,.inr (.inl ⟨_,rfl,rfl⟩)⟩),?_⟩;(focus omega);(focus omega);(focus omega);conv=>whnf)|(refine⟨ns,root,n,_,_,_,_,_,_,_,rfl,rfl,(Int.toNat_of_nonneg ?_).symm,(Int.toNat_of_nonneg ?_).symm,?_,hn,hq,.inr (.inr ⟨_,rfl,.inr (.inr ⟨_,_,rfl,rfl⟩)⟩),?_⟩;(focus omega);(focus omega);(focus omega);conv=>whnf)|fail)
  all_goals refine hr _ _ rfl (ret_eq hk ?_)
  all_goals clear hr hk hq
  all_goals try simp only [Int.toNat_natCast,show Int.toNat 0=0 from rfl,show Int.toNat 4000=4000 from rfl,show Int.toNat 1=1 from rfl,show Int.toNat 2=2 from rfl,Nat.zero_add,List.drop_zero] at *
  all_goals refine congrArg (fun b=>AV.p (.bool b)) (Bool.eq_iff_iff.2 ?_)
  all_goals simp (disch:=omega) only [kidsOkS,if_pos,if_neg,List.drop_zero,Nat.zero_add,hkl]
  all_goals simp only [Bool.and_eq_true,beq_iff_eq,reduceCtorEq]
  all_goals first|omega|(simp only [iff_false,not_and];intros;omega)|fail
def gR3:AG:=gput 89 cText (gput 90 cNumber (gput 91 cKids g0))
theorem gR3_ok:GOk Tryz.prog gR3:=gput_ok text_ok (gput_ok number_ok (gput_ok kids_ok g0_ok))
def treeK (ns:List Nd) (root:Int):List ABlk:=[.box 24 [.p (.sl 5 ns.length (nodeF ns)),.p (.int .i64 root)]]
def cBad:AC:=fun args K k=>∃ ns root n X,args=[nodeV n,.ptr 0 0 1 0 0]∧K=treeK ns root++X∧n.tx.length<1000000∧n.kids.length≤4000∧(∀ q∈n.kids,0≤q∧q<(List.length ns:Int))∧k (.ret (.p (.bool (!nodeOkS ns n)))) (treeK ns root++X)
theorem bad_ok:COk 88 cBad:=by
 rintro args K k ⟨ns,root,n,X,rfl,rfl,ht,hn,hq,hk⟩
 refine frameG (K0:=treeK ns root) gR3_ok 19 rfl ⟨rfl,trivial⟩ fun Q hr=>?_
 conv=>whnf
 repeat' (first|((first|refine two_eq ?_ ?_|refine two_ne ?_ ?_|refine two_not ?_ ?_|refine two_dec ?_ ?_|refine two_intro ?_ ?_)<;>intro h<;>conv=>whnf)|(refine⟨n,rfl,ht,?_⟩;conv=>whnf)|(refine⟨n,rfl,?_⟩;conv=>whnf)|(refine⟨ns,root,n,rfl,hn,hq,?_⟩;conv=>whnf)|fail)
 all_goals refine hr _ _ _ _ rfl rfl ⟨rfl,trivial⟩ (AV.le_of_eq ?_) (lesK.refl _) hk
 all_goals refine congrArg (fun b=>AV.p (.bool b)) (Bool.eq_iff_iff.2 ?_)
 all_goals clear hr hk hq
 all_goals (simp_all [nodeOkS]<;>(try intros)<;>omega)
def gR4:AG:=gput 88 cBad g0
theorem gR4_ok:GOk Tryz.prog gR4:=gput_ok bad_ok g0_ok
def badAt (ns:List Nd) (i:Nat):List Nd→Int
 | []=>-1
 | n::r=>match nodeOkS ns n with
  | false=>(i:Int)
  | true=>badAt ns (i+1) r
structure Sized (ns:List Nd):Prop where
 len:ns.length≤4000
 txt:∀ i,(ns.getD i default).tx.length<1000000
 many:∀ i,(ns.getD i default).kids.length≤4000
 kid:∀ i,∀ q∈(ns.getD i default).kids,0≤q∧q<(ns.length:Int)
def cIdxR:AC:=fun args K k=>∃ ns root X,args=[.p (.sl 5 (List.length ns) (nodeF ns)),.fn 88 [] [.ptr 0 0 1 0 0]]∧K=treeK ns root++X∧Sized ns∧k (.ret (intV (badAt ns 0 ns))) (treeK ns root++X)
theorem idxR_ok:COk 136 cIdxR:=by
 rintro args K k ⟨ns,root,X,rfl,rfl,hz,hk⟩
 have hl:=hz.len
 refine frameG (K0:=treeK ns root) gR4_ok 19 rfl ⟨rfl,trivial⟩ fun Q hr=>?_
 conv=>whnf
 refine loop_up (ι:=Nat) [0,1,7] (fun i=>[(8,intV i)]) (fun _=>[]) (fun i=>i≤ns.length∧badAt ns i (ns.drop i)=badAt ns 0 ns) (fun i=>ns.length - i) 0 ⟨AV.le_refl _,trivial⟩ trivial ⟨Nat.zero_le _,rfl⟩ ?_
 rintro Y hle i ⟨hi,he⟩ ih
 have hw1:IntKind.i64.wrap ((i:Int)+1)=((i+1:Nat):Int):=by rw [w64 ⟨by omega,by omega⟩];omega
 conv=>whnf
 refine two_dec (fun h=>?_) (fun h=>?_)
 ·have h:i<ns.length:=by omega
  rw [List.drop_eq_getElem_cons h] at he
  have e1:ns.getD i default=ns[i]:=by simp [h]
  conv=>whnf
  repeat' (first|((first|refine two_eq ?_ ?_|refine two_ne ?_ ?_|refine two_not ?_ ?_|refine two_dec ?_ ?_|refine two_intro ?_ ?_)<;>intro h<;>conv=>whnf)|((first|refine Chk.mk ?_ ?_|refine And.intro ?_ ?_);(focus (((repeat' (refine And.intro ?_ ?_))<;>(first|omega|rfl|(simp only [List.length_append,List.length_cons,List.length_nil];omega)|fail));done));conv=>whnf)|(refine Exists.intro _ (And.intro rfl ?_))|(refine Exists.intro _ (Exists.intro _ (And.intro rfl ?_)))|(refine Exists.intro _ (Exists.intro _ (Exists.intro _ (And.intro rfl ?_))))|fail)
  refine⟨ns,root,ns.getD i default,[],rfl,rfl,hz.txt _,hz.many _,hz.kid _,?_⟩
  conv=>whnf
  refine two_not (fun h2=>?_) (fun h2=>?_)
  ·rw [e1] at h2
   simp only [badAt,h2] at he
   conv=>whnf
   exact hr _ _ _ _ rfl rfl ⟨rfl,trivial⟩ (AV.le_refl _) (lesK.refl _) (he▸hk)
  ·rw [e1] at h2
   simp only [badAt,h2] at he
   conv=>whnf
   refine hle _ _ (Le.env ?_ ?_) (ih (i+1) (by omega) ⟨by omega,he⟩)
   ·skip
    repeat' (first|exact trivial|((conv=>whnf);first|exact trivial|refine⟨AV.le_refl _,?_⟩|refine⟨ABlk.le_refl _,?_⟩|(refine⟨AV.le_of_eq ?_,?_⟩;focus ((first|exact congrArg intV hw1|fail);done))|(refine⟨ABlk.le_of_eq ?_,?_⟩;focus ((first|exact congrArg intV hw1|fail);done))|fail)|fail)
   ·skip
    repeat' (first|exact trivial|((conv=>whnf);first|exact trivial|refine⟨AV.le_refl _,?_⟩|refine⟨ABlk.le_refl _,?_⟩|fail)|fail)
 ·obtain rfl:i=ns.length:=by omega
  rw [List.drop_length] at he
  rw [← he] at hk
  conv=>whnf
  exact hr _ _ _ _ rfl rfl ⟨rfl,trivial⟩ (AV.le_refl _) (lesK.refl _) hk
theorem badAt_all (ns:List Nd) (i:Nat) (l:List Nd):decide (badAt ns i l≥0)=!l.all (nodeOkS ns):=by
 induction l generalizing i with
 | nil=>rfl
 | cons n r ih =>
  unfold badAt
  rw [List.all_cons]
  by_cases h:nodeOkS ns n=true
  ·rw [h];simp only [ih,Bool.true_and]
  ·rw [Bool.eq_false_iff.2 h];simp
def gR5:AG:=gput 136 cIdxR (gput 85 cSound (gput 86 cDepth g0))
theorem gR5_ok:GOk Tryz.prog gR5:=gput_ok idxR_ok (gput_ok sound_ok (gput_ok depth_ok g0_ok))
theorem getD_lt {ns:List Nd} {i:Nat} (h:¬ i<ns.length):ns.getD i default=default:=by
 rw [List.getD_eq_getElem?_getD,List.getElem?_eq_none (by omega)];rfl
theorem sized_of {ns:List Nd} {root:Int} (h:soundS ns root=true) (ht:∀ i,(ns.getD i default).tx.length<1000000):Sized ns:=by
 obtain⟨h1,h2,h3,h4⟩:=soundS_ok h
 refine⟨h2,ht,fun i=>?_,fun i q hq=>?_⟩
 ·by_cases hi:i<ns.length
  ·have:=soundS_many h i hi;omega
  ·rw [getD_lt hi];exact Nat.zero_le _
 ·by_cases hi:i<ns.length
  ·have:=h4 i hi q hq;omega
  ·rw [getD_lt hi] at hq;cases hq
def cRight:AC:=fun args K k=>∃ ns root,args=[treeV ns root]∧(List.length ns:Nat)<1000000∧(∀ i,(ns.getD i default).tx.length<1000000)∧k (.ret (.p (.bool (rightS ns root)))) K
theorem right_ok:COk 44 cRight:=by
 rintro args K k ⟨ns,root,rfl,hn,ht,hk⟩
 refine frame0P gR5_ok 19 rfl fun Q hr=>?_
 conv=>whnf
 refine⟨ns,root,rfl,hn,?_⟩
 cases hs:soundS ns root with
 | false =>
  conv=>whnf
  exact hr _ _ rfl (by simpa [rightS,hs] using hk)
 | true =>
  have hz:=sized_of hs ht
  obtain⟨h1,h2,h3,h4⟩:=soundS_ok hs
  conv=>whnf
  refine⟨ns,root,rfl,hn,?_⟩
  conv=>whnf
  refine two_dec (fun h=>?_) (fun h=>?_)
  ·conv=>whnf
   exact hr _ _ rfl (by simpa [rightS,hs,show ¬ depthS ns root≤40 by omega] using hk)
  conv=>whnf
  refine⟨⟨by omega,by omega,rfl⟩,?_⟩
  conv=>whnf
  refine two_ne (fun h'=>?_) (fun h'=>?_)
  ·conv=>whnf
   exact hr _ _ rfl (ret_eq hk (congrArg (fun b=>AV.p (.bool b)) (by simp only [rightS,beq_eq_false_iff_ne.2 h',Bool.and_false,Bool.false_and])))
  conv=>whnf
  refine⟨ns,root,[],rfl,rfl,hz,?_⟩
  conv=>whnf
  exact hr _ _ rfl (ret_eq hk (congrArg (fun b=>AV.p (.bool b)) (by
   show _=!decide (badAt ns 0 ns≥0)
   rw [badAt_all,Bool.not_not]
   simp only [rightS,hs,h',show depthS ns root≤40 by omega,decide_true,beq_self_eq_true,Bool.true_and])))
end Go.Proofs.YtojjkleplnijaaaGreatDoor
namespace Go.AE
def fsxB (r sz n:Nat) (g:Nat→List PV) (b b':ABlk):Prop:=fswB r sz n g b b'∨∃ ty s ver k f f',b=.arr ty s ver k f∧b'=.arr ty s ver k f'∧∀ i,i<k→fswL r sz n g (f i) (f' i)
def fsxK (r sz n:Nat) (g:Nat→List PV):List ABlk→List ABlk→Prop
 | [],[]=>True
 | a::l,b::l'=>fsxB r sz n g a b∧fsxK r sz n g l l'
 | _,_=>False
theorem fsxK.hp {r sz n:Nat} {g:Nat→List PV} {K K':List ABlk} (h:fsxK r sz n g K K') (j:Nat):fsxB r sz n g (hp K j) (hp K' j):=by
 induction K generalizing K' j with
 | nil=>cases K' with
  | nil=>exact .inl (.inl (ABlk.le_refl _))
  | cons b l'=>exact h.elim
 | cons a l ih=>cases K' with
  | nil=>exact h.elim
  | cons b l' =>
   cases j with
   | zero=>exact h.1
   | succ j=>exact ih h.2 j
theorem fzx_core {w:World} {m:Mp} {K K':List ABlk} {r ty sz n:Nat} {f:Nat→List AV} {g:Nat→List PV} (hS:St w m (hp K)) (hr:nth K r=some (.arr ty sz 0 n f)) (hg:∀ i,i<n→f i=pvs (g i))
  (hK:fsxK r sz n g (setN K r .dead) K'):∃ m',Tr w m w m'∧St w m' (hp K')∧∀ a a' u,fsw r sz n g a a'→V w m a u→V w m' a' u:=by
 obtain⟨m',hT,hS',hV⟩:=freeze_sl hS hr g hg
 have hv:∀ a a' u,fsw r sz n g a a'→V w m a u→V w m' a' u:=fun a a' u h hu=>by
  rcases h with h|⟨rfl,rfl⟩
  ·exact h _ _ _ (hu.mono hT)
  ·exact hV u hu
 refine⟨m',hT,⟨hS'.inj,hS'.notI,hS'.lt,hS'.Ilt,hS'.gl,fun j=>?_⟩,hv⟩
 have hb:=hS'.blk j
 have hup:hp (setN K r .dead) j=upd (hp K) r .dead j:=by rw [upd_setN _ (nth_lt hr)]
 rcases hK.hp j with (h|⟨ty,cs,cs',h1,h2,h3⟩)|⟨ty,s,ver,k,f1,f1',h1,h2,h3⟩
 ·exact h _ _ _ _ hb
 ·rw [h1] at hb
  rw [h2]
  have hj:hp K j=.box ty cs:=by
   rw [h1] at hup
   simp only [upd] at hup
   split at hup
   ·cases hup
   ·exact hup.symm
  have hb0:=hS.blk j
  rw [hj] at hb0
  obtain⟨hl0,c0,e1,e2,e3⟩:=hb0
  obtain⟨hl,c,d1,d2,d3⟩:=hb
  have hρ:m'.ρ j=m.ρ j:=by
   have hs:=hT.step j
   rw [hl0,hl] at hs
   simp only [Inf.step] at hs
   rcases hs with hs|⟨_,he⟩|⟨v',n',sz',cap',hs,hlt⟩
   ·cases hs
   ·exact he
   ·simp only [Inf.live.injEq] at hs;omega
  obtain⟨k1,k2⟩:=h3.get
  refine⟨by rw [← k1];exact hl,c0,by rw [hρ];exact e1,by rw [e2,k1],fun i hi=>?_⟩
  obtain⟨u,hu,hvu⟩:=e3 i (by omega)
  exact⟨u,hu,hv _ _ _ (k2 i (by omega) hi) hvu⟩
 ·rw [h1] at hb
  rw [h2]
  have hj:hp K j=.arr ty s ver k f1:=by
   rw [h1] at hup
   simp only [upd] at hup
   split at hup
   ·cases hup
   ·exact hup.symm
  have hb0:=hS.blk j
  rw [hj] at hb0
  rcases hb with hb|⟨cap,c,hl,q0,q00,d1,d2,d3⟩
  ·exact .inl hb
  rcases hb0 with ⟨hn,_⟩|⟨cap0,c0,hl0,p0,p00,e1,e2,e3⟩
  ·have hs:=hT.step j
   rw [hn,hl] at hs
   simp only [Inf.step] at hs
   rcases hs with hs|hs
   ·cases hs
   ·rcases hs with ⟨v',n',sz',cap',hs,hlt⟩|hs
    ·simp only [Inf.live.injEq] at hs;omega
  have hρ:m'.ρ j=m.ρ j:=by
   have hs:=hT.step j
   rw [hl0,hl] at hs
   simp only [Inf.step] at hs
   rcases hs with hs|⟨_,he⟩|⟨v',n',sz',cap',hs,hlt⟩
   ·cases hs
   ·exact he
   ·simp only [Inf.live.injEq] at hs;omega
  have hcap:cap=cap0:=by
   have hs:=hT.step j
   rw [hl0,hl] at hs
   simp only [Inf.step] at hs
   rcases hs with hs|⟨he,_⟩|⟨v',n',sz',cap',hs,hlt⟩
   ·cases hs
   ·simp only [Inf.live.injEq] at he;omega
   ·simp only [Inf.live.injEq] at hs;omega
  subst hcap
  refine .inr ⟨cap,c0,hl,q0,q00,by rw [hρ];exact e1,e2,fun i hi=>?_⟩
  obtain⟨k1,k2⟩:=(h3 i hi).get
  obtain⟨x1,x2⟩:=e3 i hi
  refine⟨by omega,fun jj hjj=>?_⟩
  obtain⟨u,hu,hvu⟩:=x2 jj (by omega)
  exact⟨u,hu,hv _ _ _ (k2 jj (by omega) hjj) hvu⟩
theorem Wk1.fzx {N:Nat} {K K':List ABlk} {r ty sz n:Nat} {f:Nat→List AV} {a a':AV} (g:Nat→List PV) (hr:nth K r=some (.arr ty sz 0 n f)) (hg:∀ i,i<n→f i=pvs (g i))
  (hK:fsxK r sz n g (setN K r .dead) K') (ha:a.le a'):Wk1 N a K a' K':=fun w m u we me hT _ hS hV=>by
 obtain⟨m',h1,h2,h3⟩:=fzx_core hS hr hg hK
 exact⟨m',hT.trans h1,h2,h3 _ _ _ (.inl ha) hV⟩
end Go.AE
namespace Go.AE
inductive Fz (K:List ABlk):AV→PV→Prop where
 | p (v:PV):Fz K (.p v) v
 | sl (r ty sz ver N off n:Nat) (f:Nat→List AV) (g:Nat→List PV) (hr:nth K r=some (.arr ty sz ver N f)) (hn:off+n=N)
   (hl:∀ i,i<n→(f (off+i)).length=(g i).length) (h:∀ i,i<n→∀ j (hj:j<(f (off+i)).length) (hj':j<(g i).length),Fz K (f (off+i))[j] (g i)[j]):Fz K (.slr r ver off n) (.sl sz n g)
 | mp (r:Nat) (kt:KT) (g:MK→Option AV) (st:List (MK×Nat)) (g':MK→Option PV) (hr:nth K r=some (.mp kt g st)) (h0:∀ κ,κ.kt=kt→((g κ).isSome↔(g' κ).isSome))
   (h:∀ κ a p,κ.kt=kt→g κ=some a→g' κ=some p→Fz K a p):Fz K (.mref r) (.mp kt g')
inductive FzV (K:List ABlk):AV→AV→Prop where
 | p (a:AV) (v:PV) (h:Fz K a v):FzV K a (.p v)
 | box (r ty off:Nat) (cs:List AV) (ps:List PV) (hr:nth K r=some (.box ty cs)) (hl:cs.length=ps.length) (h:∀ j (hj:j<cs.length) (hj':j<ps.length),Fz K cs[j] ps[j]):FzV K (.ptr r 0 1 0 off) (.rop ps off)
 | rop (ps:List PV) (off:Nat):FzV K (.rop ps off) (.rop ps off)
 | agg (cs cs':List AV) (hl:cs.length=cs'.length) (h:∀ j (hj:j<cs.length) (hj':j<cs'.length),FzV K cs[j] cs'[j]):FzV K (.agg cs) (.agg cs')
 | tup (cs cs':List AV) (hl:cs.length=cs'.length) (h:∀ j (hj:j<cs.length) (hj':j<cs'.length),FzV K cs[j] cs'[j]):FzV K (.tup cs) (.tup cs')
 | iface (t:TypeId) (a a':AV) (h:FzV K a a'):FzV K (.iface t a) (.iface t a')
 | junk (a:AV):FzV K a .junk
def ABlk.ded:ABlk→ABlk
 | .absent=>.absent
 | _=>.dead
def deadK:List ABlk→List ABlk
 | []=>[]
 | b::l=>b.ded::deadK l
theorem hp_deadK (K:List ABlk) (r:Nat):hp (deadK K) r=(hp K r).ded:=by
 induction K generalizing r with
 | nil=>rfl
 | cons b K ih =>
  cases r with
  | zero=>rfl
  | succ r=>exact ih r
def Mp.frz (m:Mp):Mp:=⟨m.ρ,fun b=>m.I b∨∃ r,(m.L r).isLive∧m.ρ r=b,fun r=>match m.L r with | .absent=>.absent|_=>.dead⟩
theorem Mp.frz_live (m:Mp) (r:Nat):¬ (m.frz.L r).isLive:=by
 simp only [Mp.frz]
 split<;>simp [Inf.isLive]
theorem Tr.frz (w:World) (m:Mp):Tr w m w m.frz where
 os:=rfl
 tape:=rfl
 output:=rfl
 size:=Nat.le_refl _
 out:=fun _ _ _=>rfl
 imm:=fun _ h=>.inl h
 same:=fun _ _=>rfl
 newI:=fun b h=>by
  rcases h with h|h
  ·exact .inl h
  ·exact .inr (.inl h)
 step:=fun r=>by
  simp only [Mp.frz]
  cases m.L r with
  | absent=>trivial
  | dead=>rfl
  | nil v=>exact .inl rfl
  | live a b c d=>exact .inl rfl
 newρ:=fun r h=>absurd h (m.frz_live r)
theorem St.frz {w:World} {m:Mp} {K:List ABlk} (h:St w m (hp K)):St w m.frz (hp (deadK K)):=by
 refine⟨fun r1 r2 h1=>absurd h1 (m.frz_live r1),fun r h1=>absurd h1 (m.frz_live r),fun r h1=>absurd h1 (m.frz_live r),fun b hb=>?_,h.gl.mono (Tr.frz w m).imm (Tr.frz w m).same,fun r=>?_⟩
 ·rcases hb with hb|⟨r,h1,rfl⟩
  ·exact h.Ilt b hb
  ·exact h.lt r h1
 ·rw [hp_deadK]
  have hb:=h.blk r
  cases hk:hp K r with
  | absent=>rw [hk] at hb;simp only [BlkOk] at hb;simp [ABlk.ded,BlkOk,Mp.frz,hb]
  | dead=>rw [hk] at hb;simp only [BlkOk] at hb;simp [ABlk.ded,BlkOk,Mp.frz,hb]
  | box ty cs=>rw [hk] at hb;simp [ABlk.ded,BlkOk,Mp.frz,hb.1]
  | lp=>rw [hk] at hb;simp [ABlk.ded,BlkOk,Mp.frz,hb.1]
  | mp=>rw [hk] at hb;simp [ABlk.ded,BlkOk,Mp.frz,hb.1]
  | arr ty sz ver n f =>
   rw [hk] at hb
   rcases hb with ⟨hb,_⟩|⟨cap,c,hb,_⟩<;>simp [ABlk.ded,BlkOk,Mp.frz,hb]
theorem Fz.ok {w:World} {m:Mp} {K:List ABlk} (hS:St w m (hp K)) {a:AV} {p:PV} (h:Fz K a p):∀ {u:Value},V w m a u→VP w m.frz.I p u:=by
 induction h with
 | p v =>
  intro u hV
  cases hV with
  | p _ _ h=>exact h.mono (Tr.frz w m).imm (fun _ _=>rfl)
 | sl r ty sz ver N off n f g hr hn hl h ih =>
  intro u hV
  have hb:=hS.blk r
  rw [hp_nth hr] at hb
  cases hV with
  | slr _ _ _ _ N' sz' cap' hL hn' =>
   rcases hb with ⟨hb,_⟩|⟨cap,c,hb,h0,h00,h1,h2,h3⟩
   ·rw [hL] at hb;simp at hb
   rw [hL] at hb
   injection hb with _ e2 e3 e4
   subst e3 e4
   have hlive:(m.L r).isLive:=by rw [hL];trivial
   have hc:∀ i,i<n→∀ j,j<(g i).length→∃ x,c[(off+i)*sz'+j]?=some x∧VP w m.frz.I ((g i).getD j .nilp) x:=fun i hi j hj=>by
    have hj2:j<(f (off+i)).length:=by rw [hl i hi];exact hj
    obtain⟨x,h4,h5⟩:=(h3 (off+i) (by omega)).2 j hj2
    have:=ih i hi j hj2 hj h5
    refine⟨x,h4,?_⟩
    rw [List.getD_eq_getElem?_getD,List.getElem?_eq_getElem hj]
    exact this
   refine .sl sz' n g (m.ρ r) (off*sz') (cap' - off) (fun i j=>(c[(off+i)*sz'+j]?).getD undef) (.inr ⟨r,hlive,rfl⟩) ⟨by omega,by omega⟩ (fun i hi j hj=>?_) (fun i hi j hj=>?_)
   ·obtain⟨x,h4,_⟩:=hc i hi j hj
    rw [cell_of_row w _ _ c ty (0,0) h1,show off*sz'+(i*sz'+j)=(off+i)*sz'+j by rw [Nat.add_mul];omega,h4]
    rfl
   ·obtain⟨x,h4,h5⟩:=hc i hi j hj
    rw [h4]
    rw [List.getD_eq_getElem?_getD,List.getElem?_eq_getElem hj] at h5
    exact h5
  | slrNil _ _ hL=>exact .sl0 ..
  | slrOld _ _ _ _ ad c hold =>
   exfalso
   rcases hb with ⟨hb,h0⟩|⟨cap,c,hb,_⟩
   ·rw [hb] at hold;simp [Inf.old] at hold
   ·rw [hb] at hold;simp [Inf.old] at hold;omega
 | mp r kt g st g' hr h0 h ih =>
  intro u hV
  have hb:=hS.blk r
  rw [hp_nth hr] at hb
  obtain⟨hl,es,clock,r2,h1,h2⟩:=hb
  cases hV with
  | mref _ sz cap hL =>
   have hlive:(m.L r).isLive:=by rw [hL];trivial
   refine .mp kt g' (m.ρ r) es clock r2 (.inr ⟨r,hlive,rfl⟩) h1 h2.is (fun κ hk hg=>?_) (fun κ p hk hg=>?_) (fun κ p i u hk hg hr=>?_)
   ·refine h2.no κ hk ?_
    cases hq:g κ with
    | none=>rfl
    | some a=>have:=(h0 κ hk).1 (by rw [hq];rfl);rw [hg] at this;simp at this
   ·have:=(h0 κ hk).2 (by rw [hg];rfl)
    cases hq:g κ with
    | none=>rw [hq] at this;simp at this
    | some a=>obtain⟨i,u,h3,_⟩:=h2.yes κ a hk hq;rw [h3];rfl
   ·have:=(h0 κ hk).2 (by rw [hg];rfl)
    cases hq:g κ with
    | none=>rw [hq] at this;simp at this
    | some a =>
     obtain⟨i',u',h3,h4⟩:=h2.yes κ a hk hq
     rw [hr] at h3
     simp only [Option.some.injEq,Prod.mk.injEq] at h3
     obtain⟨rfl,rfl⟩:=h3
     exact ih κ a p hk hq hg h4
  | mrefOld _ b hold=>rw [hl] at hold;simp [Inf.old] at hold
theorem FzV.ok {w:World} {m:Mp} {K:List ABlk} (hS:St w m (hp K)) {a a':AV} (h:FzV K a a'):∀ {u:Value},V w m a u→V w m.frz a' u:=by
 induction h with
 | p a v h=>intro u hV;exact .p v u (h.ok hS hV)
 | box r ty off cs ps hr hl h =>
  intro u hV
  have hb:=hS.blk r
  rw [hp_nth hr] at hb
  obtain⟨hL0,c,h1,h2,h3⟩:=hb
  cases hV with
  | ptr _ _ _ _ _ sz cap hL hi =>
   have hlive:(m.L r).isLive:=by rw [hL];trivial
   have hc:∀ j (hj:j<ps.length),∃ x,c[j]?=some x∧VP w m.frz.I ps[j] x:=fun j hj=>by
    obtain⟨x,h4,h5⟩:=h3 j (by omega)
    exact⟨x,h4,(h j (by omega) hj).ok hS h5⟩
   simp only [Nat.zero_mul]
   refine .rop (m:=m.frz) ps off (m.ρ r) 0 (fun j=>(c[j]?).getD undef) (.inr ⟨r,hlive,rfl⟩) (fun j hj=>?_) (fun j hj=>?_)
   ·obtain⟨x,h4,_⟩:=hc j hj
    rw [cell_of_row w _ _ c ty (0,0) h1,Nat.zero_add,h4];rfl
   ·obtain⟨x,h4,h5⟩:=hc j hj
    rw [h4];exact h5
  | ptrOld _ _ _ _ _ b o hold=>rw [hL0] at hold;simp [Inf.old] at hold
 | rop ps off=>intro u hV;exact hV.mono (Tr.frz w m)
 | agg cs cs' hl h ih =>
  intro u hV
  cases hV with
  | agg _ A hA hv=>exact .agg _ A (by omega) fun j hj hj'=>ih j (by omega) hj (hv j (by omega) hj')
 | tup cs cs' hl h ih =>
  intro u hV
  cases hV with
  | tup _ A hA hv=>exact .tup _ A (by omega) fun j hj hj'=>ih j (by omega) hj (hv j (by omega) hj')
 | iface t a a' h ih =>
  intro u hV
  cases hV with
  | iface _ _ u hv=>exact .iface t _ u (ih hv)
 | junk a=>intro u _;exact .junk u
theorem Wk1.fzAll {N:Nat} {K:List ABlk} {a a':AV} (h:FzV K a a'):Wk1 N a K a' (deadK K):=fun w m u we me hT _ hS hV =>
 ⟨m.frz,hT.trans (Tr.frz w m),hS.frz,h.ok hS hV⟩
end Go.AE
namespace Go.AE
theorem MGet.of_some {o:Option AV} {a:AV} {y:AV→Prop} {n:Prop} (h:o=some a) (hy:y a):MGet o y n :=
 MGet.mk (fun b hb=>by rw [h] at hb;cases hb;exact hy) (fun hn=>by rw [h] at hn;cases hn)
theorem MGet.of_none {o:Option AV} {y:AV→Prop} {n:Prop} (h:o=none) (hn:n):MGet o y n :=
 MGet.mk (fun b hb=>by rw [h] at hb;cases hb) (fun _=>hn)
def pvO:Option PV→Option AV
 | none=>none
 | some p=>some (.p p)
theorem MGet.pv_some {o:Option PV} {p:PV} {y:AV→Prop} {n:Prop} (h:o=some p) (hy:y (.p p)):MGet (pvO o) y n:=by
 subst h;exact MGet.of_some rfl hy
theorem MGet.pv_none {o:Option PV} {y:AV→Prop} {n:Prop} (h:o=none) (hn:n):MGet (pvO o) y n:=by
 subst h;exact MGet.of_none rfl hn
end Go.AE
namespace Go.Proofs.YtojjkleplnijaaaGreatDoor
open Go.AE Go.Ru
set_option maxRecDepth 100000
set_option maxHeartbeats 1000000
theorem wzz {i:Nat} (h:i<9223372036854775807):IntKind.i64.wrap ((i:Int)+1)=((i+1:Nat):Int):=by rw [w64 ⟨by omega,by omega⟩];omega
def rowF (f:Nat→Int) (i:Nat):List PV:=[.int .i64 (f i)]
def rowA (n:Nat) (f:Nat→Int):ABlk:=.arr 3 1 0 n (fun i=>pvs (rowF f i))
theorem rowA_set {n k k':Nat} {g:Nat→List AV} {f:Nat→Int} {v:Int} {c:List AV} (hc:c=[intV v]) (hk:k'=k) (hg:∀ i,i<n→g i=[intV (f i)]) :
  (ABlk.arr 3 1 0 n (updF g k' c)).le (rowA n (setF f k v)):=by
 subst hc hk
 refine ABlk.arr_eq rfl fun i hi=>?_
 unfold updF setF rowF
 by_cases h:i=k'
 ·subst h;simp only [Nat.beq_refl,if_true];rfl
 ·simp only [h,if_false]
  rw [show Nat.beq i k'=false from by rw [← Bool.not_eq_true];exact fun e=>h (Nat.eq_of_beq_eq_true e)]
  exact hg i hi
theorem rowA_cl (n:Nat) (f:Nat→Int) (m:Nat):(rowA n f).cl m:=fun _ _=>rfl
theorem rowU_cl {n k':Nat} {g:Nat→List AV} {f:Nat→Int} {v:Int} {c:List AV} (m:Nat) (hc:c=[intV v]) (hg:∀ i,i<n→g i=[intV (f i)]):(ABlk.arr 3 1 0 n (updF g k' c)).cl m:=by
 subst hc
 intro i hi
 unfold updF
 split
 ·rfl
 ·rw [hg i hi];rfl
structure PC where
 i:Nat
 f:Nat→Int
def gSd:AG:=gput 85 cSound g0
theorem gSd_ok:GOk Tryz.prog gSd:=gput_ok sound_ok g0_ok
def parV (ns:List Nd) (root:Int):AV:=match soundS ns root with
 | true=>.p (.sl 1 ns.length (rowF (parF ns root)))
 | false=>.p .nils
def cParents:AC:=fun args K k=>∃ ns root,args=[treeV ns root]∧List.length ns<1000000∧k (.ret (parV ns root)) K
theorem parents_ok:COk 92 cParents:=by
 rintro args K k ⟨ns,root,rfl,hn,hk⟩
 refine frame0W gSd_ok 19 rfl fun Q hr=>?_
 conv=>whnf
 refine⟨ns,root,rfl,hn,?_⟩
 cases hs:soundS ns root with
 | false =>
  simp only [parV,hs] at hk
  conv=>whnf
  exact hr _ _ _ _ (Wk1.refl _ _ _) rfl hk
 | true =>
  simp only [parV,hs] at hk
  have st:=std_of hs
  have hl:=st.len
  have hp:=st.pos
  have hrt:=st.rt
  conv=>whnf
  refine⟨⟨by omega,by omega,by omega,?_⟩,?_⟩
  ·show (8:Int)*(ns.length:Int)≤140737488355328
   omega
  conv=>whnf
  refine⟨⟨rfl,Nat.zero_add _,by omega,by omega,rfl⟩,?_⟩
  conv=>whnf
  refine⟨⟨rfl,rfl⟩,?_⟩
  conv=>whnf
  refine loop_up (ι:=PC) [2,3,20,21] (fun c=>[(22,intV c.i)]) (fun c=>[(1,rowA ns.length c.f)]) (fun c=>c.i≤ns.length∧parNs c.i (ns.drop c.i) c.f=parF ns root) (fun c=>ns.length - c.i) ⟨0,setF (fun _=>0) root.toNat (-1)⟩
   ⟨AV.le_refl _,trivial⟩ ⟨upLe1 rfl (rowA_set rfl (Nat.zero_add _) (fun _ _=>rfl)),trivial⟩ ⟨Nat.zero_le _,rfl⟩ ?_
  rintro Y hle ⟨i,f⟩ ⟨hi,he⟩ ih
  simp only at hi he
  conv=>whnf
  refine two_dec (fun h=>?_) (fun h=>?_)
  ·have h:i<ns.length:=by have h:(i:Int)<(ns.length:Int):=h;omega
   have hw1:=wzz (i:=i) (by omega)
   have hkm:=st.many i h
   have hkk:=st.kid i h
   rw [List.drop_eq_getElem_cons h] at he
   have e1:ns.getD i default=ns[i]:=by simp [h]
   rw [← e1] at he
   simp only [parNs] at he
   conv=>whnf
   repeat' (first|((first|refine two_eq ?_ ?_|refine two_ne ?_ ?_|refine two_not ?_ ?_|refine two_dec ?_ ?_|refine two_intro ?_ ?_)<;>intro h<;>conv=>whnf)|((first|refine Chk.mk ?_ ?_|refine And.intro ?_ ?_);(focus (((repeat' (refine And.intro ?_ ?_))<;>(first|omega|rfl|(simp only [List.length_append,List.length_cons,List.length_nil];omega)|fail));done));conv=>whnf)|(refine Exists.intro _ (And.intro rfl ?_))|(refine Exists.intro _ (Exists.intro _ (And.intro rfl ?_)))|(refine Exists.intro _ (Exists.intro _ (Exists.intro _ (And.intro rfl ?_))))|fail)
   refine loop_up (ι:=PC) [2,3,4,20,21,22,28,29] (fun c=>[(30,intV c.i)]) (fun c=>[(1,rowA ns.length c.f)]) (fun c=>c.i≤(nd ns i).kids.length∧parKids i ((nd ns i).kids.drop c.i) c.f=parKids i (nd ns i).kids f) (fun c=>(nd ns i).kids.length - c.i) ⟨0,f⟩
    ⟨AV.le_refl _,trivial⟩ ⟨upLe1 rfl (ABlk.le_refl _),trivial⟩ ⟨Nat.zero_le _,rfl⟩ ?_
   rintro Z hlz ⟨j,g⟩ ⟨hj,hg⟩ ihz
   simp only at hj hg
   conv=>whnf
   refine two_dec (fun h2=>?_) (fun h2=>?_)
   ·have h2:j<(nd ns i).kids.length:=by have h2:(j:Int)<((nd ns i).kids.length:Int):=h2;omega
    have hw2:=wzz (i:=j) (by omega)
    rw [List.drop_eq_getElem_cons h2] at hg
    simp only [parKids] at hg
    have hm:=hkk _ (List.getElem_mem h2)
    have e2:(nd ns i).kids.getD j 0=(nd ns i).kids[j]:=by simp [h2]
    rw [← e2] at hg hm
    conv=>whnf
    refine⟨⟨by omega,by show (j:Int)<((nd ns i).kids.length:Int);omega,rfl⟩,?_⟩
    conv=>whnf
    refine⟨⟨rfl,Nat.zero_add _,by show 0≤(nd ns i).kids.getD j 0;omega,by show (nd ns i).kids.getD j 0<(ns.length:Int);omega,rfl⟩,?_⟩
    conv=>whnf
    refine⟨⟨rfl,rfl⟩,?_⟩
    conv=>whnf
    refine hlz _ _ (Le.cutEnv 3 rfl rfl ⟨rfl,rowU_cl (f:=g) 3 rfl (fun _ _=>rfl),rfl,trivial⟩ ?_ ?_) (ihz ⟨j+1,setF g ((nd ns i).kids.getD j 0).toNat i⟩ (by show _ - (j+1)<_ - j;omega) ⟨h2,hg⟩)
    ·skip
     repeat' (first|exact trivial|((conv=>whnf);first|exact trivial|refine⟨AV.le_refl _,?_⟩|refine⟨ABlk.le_refl _,?_⟩|(refine⟨AV.le_of_eq ?_,?_⟩;focus ((first|exact congrArg intV hw2|fail);done))|(refine⟨ABlk.le_of_eq ?_,?_⟩;focus ((first|exact congrArg intV hw2|fail);done))|fail)|fail)
    ·(conv=>whnf)
     refine⟨ABlk.le_refl _,?_⟩
     (conv=>whnf)
     refine⟨rowA_set rfl (Nat.zero_add _) (fun _ _=>rfl),?_⟩
     repeat' (first|exact trivial|((conv=>whnf);first|exact trivial|refine⟨AV.le_refl _,?_⟩|refine⟨ABlk.le_refl _,?_⟩|fail)|fail)
   ·obtain rfl:j=(nd ns i).kids.length:=by have h2:¬ (j:Int)<((nd ns i).kids.length:Int):=h2;omega
    rw [List.drop_length] at hg
    simp only [parKids] at hg
    conv=>whnf
    refine hle _ _ (Le.cutEnv 2 rfl rfl ⟨rfl,rowA_cl _ _ _,trivial⟩ ?_ ?_) (ih ⟨i+1,g⟩ (by show _ - (i+1)<_ - i;omega) ⟨h,by rw [hg];exact he⟩)
    ·skip
     repeat' (first|exact trivial|((conv=>whnf);first|exact trivial|refine⟨AV.le_refl _,?_⟩|refine⟨ABlk.le_refl _,?_⟩|(refine⟨AV.le_of_eq ?_,?_⟩;focus ((first|exact congrArg intV hw1|fail);done))|(refine⟨ABlk.le_of_eq ?_,?_⟩;focus ((first|exact congrArg intV hw1|fail);done))|fail)|fail)
    ·skip
     repeat' (first|exact trivial|((conv=>whnf);first|exact trivial|refine⟨AV.le_refl _,?_⟩|refine⟨ABlk.le_refl _,?_⟩|fail)|fail)
  ·obtain rfl:i=ns.length:=by have h:¬ (i:Int)<(ns.length:Int):=h;omega
   rw [List.drop_length] at he
   simp only [parNs] at he
   subst he
   conv=>whnf
   exact hr _ _ _ _ (Wk1.freeze (r:=1) rfl (rowF (parF ns root)) (fun _ _=>rfl)) rfl hk
end Go.Proofs.YtojjkleplnijaaaGreatDoor
namespace Go.Ru
structure Kt (ns:List Nd):Prop where
 len:ns.length<1000000
 many:∀ i,(nd ns i).kids.length<1000000
def AheadT (ns:List Nd):Prop:=∀ j,j<ns.length→∀ k∈(nd ns j).kids,0≤k∧k<(j:Int)
theorem ahead_of {ns:List Nd} (h:aheadS ns=true):AheadT ns:=fun j hj k hk=>by
 simp only [aheadS,List.all_eq_true,List.mem_range,Bool.not_eq_true',Bool.or_eq_false_iff,decide_eq_false_iff_not] at h
 have:=h j hj k hk
 omega
theorem ahead_to {ns:List Nd} (h:AheadT ns):aheadS ns=true:=by
 simp only [aheadS,List.all_eq_true,List.mem_range,Bool.not_eq_true',Bool.or_eq_false_iff,decide_eq_false_iff_not]
 intro j hj k hk
 have:=h j hj k hk
 omega
theorem begF_le {ns:List Nd} (ah:AheadT ns) (m:Nat):∀ p:Nat,p<ns.length→p<m→begF ns m p≤(p:Int):=fun p hp hm=>by
 by_cases h:0≤begF ns m p
 ·have e:=begF_more ah m ns.length p hp hm hp
  rw [e] at h ⊢
  exact (begF_in ah p hp h).1
 ·omega
theorem getD_mem {l:List Int} {i:Nat} (h:i<l.length):l.getD i 0∈l:=by
 rw [List.getD_eq_getElem?_getD,List.getElem?_eq_getElem h];exact List.getElem_mem h
end Go.Ru
namespace Go.Proofs.YtojjkleplnijaaaGreatDoor
open Go.AE Go.Ru
set_option maxRecDepth 100000
set_option maxHeartbeats 1000000
def cBeg (m:Nat):AC:=fun args K k=>∃ ns p' p v,args=[.p (.sl 5 ns.length (nodeF ns)),intV p']∧p'=p∧Kt ns∧AheadT ns∧0≤p∧p<(List.length ns:Int)∧p<(m:Int)∧begF ns m p=v∧k (.ret (intV v)) K
structure BgC where
 j:Nat
 k:Int
theorem beg_ok (m:Nat):COk 149 (cBeg m):=by
 induction m with
 | zero=>rintro args K k ⟨ns,p,_,v,rfl,rfl,_,_,h1,_,h2,_⟩;omega
 | succ m ihm =>
 rintro args K k ⟨ns,p,_,v,rfl,rfl,kt,ah,h1,h2,h3,hv,hk⟩
 subst hv
 have hlen:=kt.len
 obtain⟨x,rfl⟩:∃ x:Nat,p=(x:Int):=⟨p.toNat,by omega⟩
 have hmany:=kt.many x
 simp only [begF,Int.toNat_natCast] at hk
 have hkid:=ah x (by omega)
 refine frame0P (gput_ok ihm g0_ok) 19 rfl fun Q hr=>?_
 have hw0:IntKind.i64.wrap (((nd ns x).kids.length:Int) - 1)=((nd ns x).kids.length:Int) - 1:=by rw [w64 ⟨by omega,by omega⟩]
 conv=>whnf
 refine⟨⟨by omega,by omega,rfl⟩,?_⟩
 conv=>whnf
 refine loop_up (ι:=BgC) [0,6] (fun c=>[(5,intV c.k),(7,intV ((c.j:Int) - 1))]) (fun _=>[]) (fun c=>c.j≤(nd ns x).kids.length∧-1<c.k∧c.k≤1000000∧kidB (begF ns m) ((nd ns x).kids.take c.j).reverse c.k=kidB (begF ns m) (nd ns x).kids.reverse x) (fun c=>c.j) ⟨(nd ns x).kids.length,x⟩
  ⟨AV.le_refl _,AV.le_of_eq (congrArg intV hw0),trivial⟩ trivial ⟨Nat.le_refl _,by show (-1:Int)<(x:Int);omega,by show (x:Int)≤1000000;omega,by rw [List.take_length]⟩ ?_
 rintro Y hle ⟨j,b⟩ ⟨hj,hb,hb2,he⟩ ih
 simp only at hj hb hb2 he
 conv=>whnf
 refine two_dec (fun h=>?_) (fun h=>?_)
 ·have h:(j:Int) - 1≥0:=h
  obtain⟨j,rfl⟩:∃ i,j=i+1:=⟨j - 1,by omega⟩
  have hjl:j<(nd ns x).kids.length:=by omega
  have e0:(((j+1:Nat):Int) - 1).toNat=j:=by omega
  have hidx:((j+1:Nat):Int) - 1<((nd ns x).kids.length:Int):=by omega
  have hw1:IntKind.i64.wrap ((((j+1:Nat):Int) - 1) - 1)=(j:Int) - 1:=by rw [w64 ⟨by omega,by omega⟩];omega
  have hwb:IntKind.i64.wrap (b - 1)=b - 1:=by rw [w64 ⟨by omega,by omega⟩]
  have hq:=hkid _ (getD_mem hjl)
  have htk:((nd ns x).kids.take (j+1)).reverse=(nd ns x).kids.getD j 0::((nd ns x).kids.take j).reverse:=by
   rw [List.take_succ_eq_append_getElem hjl,List.reverse_append,List.getD_eq_getElem?_getD,List.getElem?_eq_getElem hjl]
   rfl
  rw [htk] at he
  simp only [kidB] at he
  obtain⟨q,hqe⟩:∃ q,(nd ns x).kids.getD j 0=q:=⟨_,rfl⟩
  rw [hqe] at he hq
  have hge:(nd ns x).kids.getD (((j+1:Nat):Int) - 1).toNat 0=q:=by rw [e0];exact hqe
  conv=>whnf
  refine⟨⟨by omega,hidx,rfl⟩,?_⟩
  conv=>whnf
  refine two_ne (fun h4=>?_) (fun h4=>?_)
  ·have h4:q≠b - 1:=by rw [← hqe,← e0,← hwb];exact h4
   have hc:(q != b - 1 || decide (q<0))=true:=by rw [bne_iff_ne.2 h4];rfl
   rw [hc] at he
   have he:(-1:Int)=_:=he
   rw [← he] at hk
   conv=>whnf
   exact hr _ _ rfl hk
  have h4:q=b - 1:=by rw [← hqe,← e0,← hwb];exact h4
  have hc:(q != b - 1 || decide (q<0))=false:=by rw [decide_eq_false (by omega:¬ q<0),h4];simp
  rw [hc] at he
  conv=>whnf
  refine⟨⟨by omega,hidx,rfl⟩,?_⟩
  conv=>whnf
  refine two_dec (fun h5=>?_) (fun _=>?_)
  ·have h5:(nd ns x).kids.getD (((j+1:Nat):Int) - 1).toNat 0<0:=h5
   rw [hge] at h5;omega
  conv=>whnf
  refine⟨⟨by omega,hidx,rfl⟩,?_⟩
  conv=>whnf
  obtain⟨v2,hv2⟩:∃ v2,begF ns m q=v2:=⟨_,rfl⟩
  have hbl:=begF_le ah m q.toNat (by omega) (by omega)
  rw [show ((q.toNat:Nat):Int)=q by omega,hv2] at hbl
  refine⟨ns,_,q,v2,rfl,hge,kt,ah,by omega,by omega,by omega,hv2,?_⟩
  conv=>whnf
  refine two_dec (fun h6=>?_) (fun h6=>?_)
  ·have h6:v2<0:=h6
   have hd:decide (v2<0)=true:=decide_eq_true h6
   simp only [hv2,hd] at he
   rw [← he] at hk
   conv=>whnf
   exact hr _ _ rfl hk
  have h6:¬ v2<0:=h6
  have hd:decide (v2<0)=false:=decide_eq_false h6
  simp only [hv2,hd] at he
  conv=>whnf
  refine hle _ _ (Le.env ?_ ?_) (ih ⟨j,v2⟩ (Nat.lt_succ_self _) ⟨by simp only;omega,by simp only;omega,by simp only;omega,he⟩)
  ·skip
   repeat' (first|exact trivial|((conv=>whnf);first|exact trivial|refine⟨AV.le_refl _,?_⟩|refine⟨ABlk.le_refl _,?_⟩|(refine⟨AV.le_of_eq ?_,?_⟩;focus ((first|exact congrArg intV hw1|fail);done))|(refine⟨ABlk.le_of_eq ?_,?_⟩;focus ((first|exact congrArg intV hw1|fail);done))|fail)|fail)
  ·skip
   repeat' (first|exact trivial|((conv=>whnf);first|exact trivial|refine⟨AV.le_refl _,?_⟩|refine⟨ABlk.le_refl _,?_⟩|fail)|fail)
 ·obtain rfl:j=0:=by have h:¬ (j:Int) - 1≥0:=h;omega
  simp only [List.take_zero,List.reverse_nil,kidB] at he
  rw [← he] at hk
  conv=>whnf
  exact hr _ _ rfl hk
def cRSound:AC:=fun args K k=>∃ ns root v,args=[treeV ns root]∧Kt ns∧soundS ns root=v∧k (.ret (.p (.bool v))) K
theorem rsound_ok:COk 104 cRSound:=by
 rintro args K k ⟨ns,root,v,rfl,kt,rfl,hk⟩
 rw [← sound4_eq] at hk
 have hlen:=kt.len
 refine frame0P (gput_ok (beg_ok 4000) g0_ok) 19 rfl fun Q hr=>?_
 conv=>whnf
 refine two_dec (fun h=>?_) (fun h1=>?_)
 ·have h:(ns.length:Int)<1:=h
  rw [show sound4 ns root=false by simp only [sound4];rw [decide_eq_true h];rfl] at hk
  conv=>whnf
  exact hr _ _ rfl hk
 have h1:¬ (ns.length:Int)<1:=h1
 conv=>whnf
 refine two_dec (fun h=>?_) (fun h2=>?_)
 ·have h:(ns.length:Int)>4000:=h
  rw [show sound4 ns root=false by simp only [sound4];rw [decide_eq_false h1,decide_eq_true h];rfl] at hk
  conv=>whnf
  exact hr _ _ rfl hk
 have h2:¬ (ns.length:Int)>4000:=h2
 have hw:IntKind.i64.wrap ((ns.length:Int) - 1)=(ns.length:Int) - 1:=by rw [w64 ⟨by omega,by omega⟩]
 conv=>whnf
 refine two_ne (fun h=>?_) (fun h3=>?_)
 ·have h:root≠(ns.length:Int) - 1:=by rw [← hw];exact h
  rw [show sound4 ns root=false by simp only [sound4];rw [decide_eq_false h1,decide_eq_false h2,bne_iff_ne.2 h];rfl] at hk
  conv=>whnf
  exact hr _ _ rfl hk
 have h3:root=(ns.length:Int) - 1:=by rw [← hw];exact h3
 have hs4:sound4 ns root=(aheadS ns&&begF ns ns.length ((ns.length:Int) - 1)==0):=by
  simp only [sound4];rw [decide_eq_false h1,decide_eq_false h2,h3,bne_self_eq_false];rfl
 rw [hs4] at hk
 have hbad:∀ i:Nat,i<ns.length→∀ q∈(nd ns i).kids,(q<0∨q≥(i:Int))→aheadS ns=false:=fun i hi q hq h=>by
  rw [← Bool.not_eq_true]
  intro ha
  have:=ahead_of ha i hi q hq
  omega
 conv=>whnf
 refine loop_up (ι:=Nat) [1,3] (fun i=>[(4,intV i)]) (fun _=>[]) (fun i=>i≤ns.length∧∀ j,j<i→∀ q∈(nd ns j).kids,0≤q∧q<(j:Int)) (fun i=>ns.length - i) 0 ⟨AV.le_refl _,trivial⟩ trivial ⟨Nat.zero_le _,fun j hj=>by omega⟩ ?_
 rintro Y hle i ⟨hi,hdone⟩ ih
 conv=>whnf
 refine two_dec (fun h=>?_) (fun h=>?_)
 ·have h:i<ns.length:=by have h:(i:Int)<(ns.length:Int):=h;omega
  have hw1:=wzz (i:=i) (by omega)
  have hm:=kt.many i
  conv=>whnf
  refine loop_up (ι:=Nat) [1,3,4] (fun j=>[(5,intV j)]) (fun _=>[]) (fun j=>j≤(nd ns i).kids.length∧∀ q∈(nd ns i).kids.take j,0≤q∧q<(i:Int)) (fun j=>(nd ns i).kids.length - j) 0 ⟨AV.le_refl _,trivial⟩ trivial ⟨Nat.zero_le _,fun q hq=>by simp at hq⟩ ?_
  rintro Z hlz j ⟨hj,hdz⟩ ihz
  conv=>whnf
  refine⟨⟨by omega,by omega,rfl⟩,?_⟩
  conv=>whnf
  refine two_dec (fun hjl=>?_) (fun hjl=>?_)
  ·have hjl:j<(nd ns i).kids.length:=by have h:(j:Int)<((nd ns i).kids.length:Int):=hjl;omega
   have hjl':(j:Int)<((nd ns i).kids.length:Int):=by omega
   have hw2:=wzz (i:=j) (by omega)
   have hqm:=getD_mem hjl
   have htk:(nd ns i).kids.take (j+1)=(nd ns i).kids.take j++[(nd ns i).kids.getD j 0]:=by
    rw [List.take_succ_eq_append_getElem hjl,List.getD_eq_getElem?_getD,List.getElem?_eq_getElem hjl];rfl
   conv=>whnf
   repeat' (first|(refine Chk.mk ⟨by omega,by omega,rfl⟩ ?_;conv=>whnf)|(refine Chk.mk ⟨by omega,hjl',rfl⟩ ?_;conv=>whnf)|fail)
   refine two_dec (fun h5=>?_) (fun h5=>?_)
   ·have h5:(nd ns i).kids.getD j 0<0:=h5
    rw [hbad i h _ hqm (.inl h5),Bool.false_and] at hk
    conv=>whnf
    exact hr _ _ rfl hk
   have h5:¬ (nd ns i).kids.getD j 0<0:=h5
   conv=>whnf
   repeat' (first|(refine Chk.mk ⟨by omega,by omega,rfl⟩ ?_;conv=>whnf)|(refine Chk.mk ⟨by omega,hjl',rfl⟩ ?_;conv=>whnf)|fail)
   refine two_dec (fun h6=>?_) (fun h6=>?_)
   ·have h6:(nd ns i).kids.getD j 0≥(i:Int):=h6
    rw [hbad i h _ hqm (.inr h6),Bool.false_and] at hk
    conv=>whnf
    exact hr _ _ rfl hk
   have h6:¬ (nd ns i).kids.getD j 0≥(i:Int):=h6
   conv=>whnf
   refine hlz _ _ (Le.env ?_ ?_) (ihz (j+1) (by omega) ⟨by omega,fun q hq=>?_⟩)
   ·skip
    repeat' (first|exact trivial|((conv=>whnf);first|exact trivial|refine⟨AV.le_refl _,?_⟩|refine⟨ABlk.le_refl _,?_⟩|(refine⟨AV.le_of_eq ?_,?_⟩;focus ((first|exact congrArg intV hw2|fail);done))|(refine⟨ABlk.le_of_eq ?_,?_⟩;focus ((first|exact congrArg intV hw2|fail);done))|fail)|fail)
   ·skip
    repeat' (first|exact trivial|((conv=>whnf);first|exact trivial|refine⟨AV.le_refl _,?_⟩|refine⟨ABlk.le_refl _,?_⟩|fail)|fail)
   ·rw [htk] at hq
    rcases List.mem_append.1 hq with hq|hq
    ·exact hdz q hq
    ·simp only [List.mem_cons,List.not_mem_nil,or_false] at hq
     subst hq;omega
  ·obtain rfl:j=(nd ns i).kids.length:=by have h:¬ (j:Int)<((nd ns i).kids.length:Int):=hjl;omega
   rw [List.take_length] at hdz
   conv=>whnf
   refine hle _ _ (Le.env ?_ ?_) (ih (i+1) (by omega) ⟨by omega,fun j hj=>?_⟩)
   ·skip
    repeat' (first|exact trivial|((conv=>whnf);first|exact trivial|refine⟨AV.le_refl _,?_⟩|refine⟨ABlk.le_refl _,?_⟩|(refine⟨AV.le_of_eq ?_,?_⟩;focus ((first|exact congrArg intV hw1|fail);done))|(refine⟨ABlk.le_of_eq ?_,?_⟩;focus ((first|exact congrArg intV hw1|fail);done))|fail)|fail)
   ·skip
    repeat' (first|exact trivial|((conv=>whnf);first|exact trivial|refine⟨AV.le_refl _,?_⟩|refine⟨ABlk.le_refl _,?_⟩|fail)|fail)
   ·by_cases e:j=i
    ·subst e;exact hdz
    ·exact hdone j (by omega)
 ·obtain rfl:i=ns.length:=by have h:¬ (i:Int)<(ns.length:Int):=h;omega
  have ah:AheadT ns:=hdone
  rw [ahead_to ah,Bool.true_and,show (ns.length:Int) - 1=((ns.length - 1:Nat):Int) by omega,begF_more ah ns.length 4000 (ns.length - 1) (by omega) (by omega) (by omega)] at hk
  conv=>whnf
  refine⟨ns,_,((ns.length - 1:Nat):Int),_,rfl,by rw [hw];omega,kt,ah,by omega,by omega,by omega,rfl,?_⟩
  conv=>whnf
  exact hr _ _ rfl hk
def cRParents:AC:=fun args K k=>∃ ns root,args=[treeV ns root]∧Kt ns∧soundS ns root=true∧k (.ret (.p (.sl 1 ns.length (rowF (parF ns root))))) K
theorem rparents_ok:COk 66 cRParents:=by
 rintro args K k ⟨ns,root,rfl,kt,hs,hk⟩
 refine frame0W (gput_ok rsound_ok g0_ok) 19 rfl fun Q hr=>?_
 conv=>whnf
 refine⟨ns,root,true,rfl,kt,hs,?_⟩
 ·skip
  have st:=std_of hs
  have hl:=st.len
  have hp:=st.pos
  have hrt:=st.rt
  conv=>whnf
  refine⟨⟨by omega,by omega,by omega,?_⟩,?_⟩
  ·show (8:Int)*(ns.length:Int)≤140737488355328
   omega
  conv=>whnf
  refine⟨⟨rfl,Nat.zero_add _,by omega,by omega,rfl⟩,?_⟩
  conv=>whnf
  refine⟨⟨rfl,rfl⟩,?_⟩
  conv=>whnf
  refine loop_up (ι:=PC) [1,4] (fun c=>[(5,intV c.i)]) (fun c=>[(1,rowA ns.length c.f)]) (fun c=>c.i≤ns.length∧parNs c.i (ns.drop c.i) c.f=parF ns root) (fun c=>ns.length - c.i) ⟨0,setF (fun _=>0) root.toNat (-1)⟩
   ⟨AV.le_refl _,trivial⟩ ⟨upLe1 rfl (rowA_set rfl (Nat.zero_add _) (fun _ _=>rfl)),trivial⟩ ⟨Nat.zero_le _,rfl⟩ ?_
  rintro Y hle ⟨i,f⟩ ⟨hi,he⟩ ih
  simp only at hi he
  conv=>whnf
  refine two_dec (fun h=>?_) (fun h=>?_)
  ·have h:i<ns.length:=by have h:(i:Int)<(ns.length:Int):=h;omega
   have hw1:=wzz (i:=i) (by omega)
   have hkm:=st.many i h
   have hkk:=st.kid i h
   rw [List.drop_eq_getElem_cons h] at he
   have e1:ns.getD i default=ns[i]:=by simp [h]
   rw [← e1] at he
   simp only [parNs] at he
   conv=>whnf
   repeat' (first|((first|refine two_eq ?_ ?_|refine two_ne ?_ ?_|refine two_not ?_ ?_|refine two_dec ?_ ?_|refine two_intro ?_ ?_)<;>intro h<;>conv=>whnf)|((first|refine Chk.mk ?_ ?_|refine And.intro ?_ ?_);(focus (((repeat' (refine And.intro ?_ ?_))<;>(first|omega|rfl|(simp only [List.length_append,List.length_cons,List.length_nil];omega)|fail));done));conv=>whnf)|(refine Exists.intro _ (And.intro rfl ?_))|(refine Exists.intro _ (Exists.intro _ (And.intro rfl ?_)))|(refine Exists.intro _ (Exists.intro _ (Exists.intro _ (And.intro rfl ?_))))|fail)
   refine loop_up (ι:=PC) [1,4,5] (fun c=>[(6,intV c.i)]) (fun c=>[(1,rowA ns.length c.f)]) (fun c=>c.i≤(nd ns i).kids.length∧parKids i ((nd ns i).kids.drop c.i) c.f=parKids i (nd ns i).kids f) (fun c=>(nd ns i).kids.length - c.i) ⟨0,f⟩
    ⟨AV.le_refl _,trivial⟩ ⟨upLe1 rfl (ABlk.le_refl _),trivial⟩ ⟨Nat.zero_le _,rfl⟩ ?_
   rintro Z hlz ⟨j,g⟩ ⟨hj,hg⟩ ihz
   simp only at hj hg
   conv=>whnf
   refine⟨⟨by omega,by omega,rfl⟩,?_⟩
   conv=>whnf
   refine two_dec (fun h2=>?_) (fun h2=>?_)
   ·have h2:j<(nd ns i).kids.length:=by have h2:(j:Int)<((nd ns i).kids.length:Int):=h2;omega
    have hw2:=wzz (i:=j) (by omega)
    rw [List.drop_eq_getElem_cons h2] at hg
    simp only [parKids] at hg
    have hm:=hkk _ (List.getElem_mem h2)
    have e2:(nd ns i).kids.getD j 0=(nd ns i).kids[j]:=by simp [h2]
    rw [← e2] at hg hm
    have hi0:0≤(i:Int):=by omega
    have hil:(i:Int)<(ns.length:Int):=by omega
    have hj0:0≤(j:Int):=by omega
    have hjl:(j:Int)<((nd ns i).kids.length:Int):=by omega
    have hm0:0≤(nd ns i).kids.getD j 0:=hm.1
    have hml:(nd ns i).kids.getD j 0<(ns.length:Int):=by omega
    conv=>whnf
    repeat' (first|(refine Chk.mk ⟨hi0,hil,rfl⟩ ?_;conv=>whnf)|(refine Chk.mk ⟨hj0,hjl,rfl⟩ ?_;conv=>whnf)|(refine Chk.mk ⟨rfl,Nat.zero_add _,hi0,hil,rfl⟩ ?_;conv=>whnf)|(refine Chk.mk ⟨rfl,Nat.zero_add _,hm0,hml,rfl⟩ ?_;conv=>whnf)|(refine Chk.mk ⟨rfl,rfl⟩ ?_;conv=>whnf)|(refine And.intro ⟨hi0,hil,rfl⟩ ?_;conv=>whnf)|(refine And.intro ⟨hj0,hjl,rfl⟩ ?_;conv=>whnf)|(refine And.intro ⟨rfl,Nat.zero_add _,hi0,hil,rfl⟩ ?_;conv=>whnf)|(refine And.intro ⟨rfl,Nat.zero_add _,hm0,hml,rfl⟩ ?_;conv=>whnf)|(refine And.intro ⟨rfl,rfl⟩ ?_;conv=>whnf)|fail)
    refine hlz _ _ (Le.cutEnv 2 rfl rfl ⟨rfl,rowU_cl (f:=g) 2 rfl (fun _ _=>rfl),trivial⟩ ?_ ?_) (ihz ⟨j+1,setF g ((nd ns i).kids.getD j 0).toNat i⟩ (by show _ - (j+1)<_ - j;omega) ⟨h2,hg⟩)
    ·skip
     repeat' (first|exact trivial|((conv=>whnf);first|exact trivial|refine⟨AV.le_refl _,?_⟩|refine⟨ABlk.le_refl _,?_⟩|(refine⟨AV.le_of_eq ?_,?_⟩;focus ((first|exact congrArg intV hw2|fail);done))|(refine⟨ABlk.le_of_eq ?_,?_⟩;focus ((first|exact congrArg intV hw2|fail);done))|fail)|fail)
    ·(conv=>whnf)
     refine⟨ABlk.le_refl _,?_⟩
     (conv=>whnf)
     refine⟨rowA_set rfl (Nat.zero_add _) (fun _ _=>rfl),?_⟩
     repeat' (first|exact trivial|((conv=>whnf);first|exact trivial|refine⟨AV.le_refl _,?_⟩|refine⟨ABlk.le_refl _,?_⟩|fail)|fail)
   ·obtain rfl:j=(nd ns i).kids.length:=by have h2:¬ (j:Int)<((nd ns i).kids.length:Int):=h2;omega
    rw [List.drop_length] at hg
    simp only [parKids] at hg
    conv=>whnf
    refine hle _ _ (Le.cutEnv 2 rfl rfl ⟨rfl,rowA_cl _ _ _,trivial⟩ ?_ ?_) (ih ⟨i+1,g⟩ (by show _ - (i+1)<_ - i;omega) ⟨h,by rw [hg];exact he⟩)
    ·skip
     repeat' (first|exact trivial|((conv=>whnf);first|exact trivial|refine⟨AV.le_refl _,?_⟩|refine⟨ABlk.le_refl _,?_⟩|(refine⟨AV.le_of_eq ?_,?_⟩;focus ((first|exact congrArg intV hw1|fail);done))|(refine⟨ABlk.le_of_eq ?_,?_⟩;focus ((first|exact congrArg intV hw1|fail);done))|fail)|fail)
    ·skip
     repeat' (first|exact trivial|((conv=>whnf);first|exact trivial|refine⟨AV.le_refl _,?_⟩|refine⟨ABlk.le_refl _,?_⟩|fail)|fail)
  ·obtain rfl:i=ns.length:=by have h:¬ (i:Int)<(ns.length:Int):=h;omega
   rw [List.drop_length] at he
   simp only [parNs] at he
   subst he
   conv=>whnf
   exact hr _ _ _ _ (Wk1.freeze (r:=1) rfl (rowF (parF ns root)) (fun _ _=>rfl)) rfl hk
def cRDepth:AC:=fun args K k=>∃ ns root,args=[treeV ns root]∧Kt ns∧soundS ns root=true∧k (.ret (intV (depthS ns root))) K
def dpF (ns:List Nd) (j:Nat):Int:=(deepS ns 4000 (j:Int):Nat)
def mxF (ns:List Nd) (l:List Int):Nat:=l.foldl (fun d k=>max d (deepS ns 3999 k)) 0
theorem rdepth_ok:COk 105 cRDepth:=by
 rintro args K k ⟨ns,root,rfl,kt,hs,hk⟩
 have st:=std_of hs
 have hl:=st.len
 have hp:=st.pos
 have hrt:=st.rt
 have hkd:∀ j,j<ns.length→∀ k∈(ns.getD j default).kids,0≤k∧k<(j:Int):=fun j hj q hq=>by have:=st.kid j hj q hq;omega
 have hdp:∀ j,j<ns.length→dpF ns j=((mxF ns (nd ns j).kids+1:Nat):Int):=fun j hj=>by
  simp only [dpF,mxF];rfl
 have hres:depthS ns root=deepS ns 4000 root:=by
  simp only [depthS,hs]
  exact deepS_more ns hkd ns.length 4000 root (by omega) (by omega) (by omega) hl
 rw [hres,show root=((ns.length - 1:Nat):Int) by omega] at hk
 refine frame0P (gput_ok rsound_ok g0_ok) 19 rfl fun Q hr=>?_
 conv=>whnf
 refine⟨ns,root,true,rfl,kt,hs,?_⟩
 conv=>whnf
 refine⟨⟨by omega,by omega,by omega,?_⟩,?_⟩
 ·show (8:Int)*(ns.length:Int)≤140737488355328
  omega
 conv=>whnf
 refine loop_up (ι:=PC) [1,4] (fun c=>[(5,intV c.i)]) (fun c=>[(1,rowA ns.length c.f)]) (fun c=>c.i≤ns.length∧∀ j,j<c.i→c.f j=dpF ns j) (fun c=>ns.length - c.i) ⟨0,fun _=>0⟩
  ⟨AV.le_refl _,trivial⟩ ⟨upLe1 rfl (ABlk.arr_eq rfl fun _ _=>rfl),trivial⟩ ⟨Nat.zero_le _,fun j hj=>by simp only at hj;omega⟩ ?_
 rintro Y hle ⟨i,f⟩ ⟨hi,hf⟩ ih
 simp only at hi hf
 conv=>whnf
 refine two_dec (fun h=>?_) (fun h=>?_)
 ·have h:i<ns.length:=by have h:(i:Int)<(ns.length:Int):=h;omega
  have hw1:=wzz (i:=i) (by omega)
  have hkm:=st.many i h
  have hkk:=st.kid i h
  conv=>whnf
  refine⟨⟨rfl,Nat.zero_add _,by omega,by omega,rfl⟩,?_⟩
  conv=>whnf
  refine⟨⟨rfl,rfl⟩,?_⟩
  conv=>whnf
  refine loop_up (ι:=PC) [1,4,5] (fun c=>[(6,intV c.i)]) (fun c=>[(1,rowA ns.length c.f)]) (fun c=>c.i≤(nd ns i).kids.length∧(∀ j,j<i→c.f j=dpF ns j)∧c.f i=((mxF ns ((nd ns i).kids.take c.i)+1:Nat):Int)) (fun c=>(nd ns i).kids.length - c.i) ⟨0,setF f i 1⟩
   ⟨AV.le_refl _,trivial⟩ ⟨upLe1 rfl (rowA_set rfl (Nat.zero_add _) (fun _ _=>rfl)),trivial⟩ ⟨Nat.zero_le _,fun j hj=>by simp only [setF];rw [if_neg (by omega)];exact hf j hj,by simp [setF,mxF]⟩ ?_
  rintro Z hlz ⟨j,g⟩ ⟨hj,hg,hgi⟩ ihz
  simp only at hj hg hgi
  conv=>whnf
  refine⟨⟨by omega,by omega,rfl⟩,?_⟩
  conv=>whnf
  refine two_dec (fun h2=>?_) (fun h2=>?_)
  ·have h2:j<(nd ns i).kids.length:=by have h2:(j:Int)<((nd ns i).kids.length:Int):=h2;omega
   have h2':(j:Int)<((nd ns i).kids.length:Int):=by omega
   have hw2:=wzz (i:=j) (by omega)
   have hm:=hkk _ (getD_mem h2)
   have hi0:0≤(i:Int):=by omega
   have hil:(i:Int)<(ns.length:Int):=by omega
   have hj0:0≤(j:Int):=by omega
   have hjl:(j:Int)<((nd ns i).kids.length:Int):=h2'
   have hm0:0≤(nd ns i).kids.getD j 0:=hm.1
   have hml:(nd ns i).kids.getD j 0<(ns.length:Int):=by omega
   obtain⟨q,hq⟩:∃ q:Nat,(nd ns i).kids.getD j 0=(q:Int):=⟨((nd ns i).kids.getD j 0).toNat,by omega⟩
   have hgq:g q=dpF ns q:=hg q (by omega)
   have hqd:dpF ns q=(deepS ns 3999 (q:Int):Nat):=by
    simp only [dpF];rw [deepS_more ns hkd 3999 4000 (q:Int) (by omega) (by omega) (by omega) (by omega)]
   have hq1:=deepS_le ns 3999 (q:Int)
   have hwq:IntKind.i64.wrap (1+g ((nd ns i).kids.getD j 0).toNat)=1+(deepS ns 3999 (q:Int):Nat):=by
    rw [hq,Int.toNat_natCast,hgq,hqd,w64 ⟨by omega,by omega⟩]
   have hmx:mxF ns ((nd ns i).kids.take (j+1))=max (mxF ns ((nd ns i).kids.take j)) (deepS ns 3999 (q:Int)):=by
    unfold mxF
    rw [List.take_succ_eq_append_getElem h2,List.foldl_append]
    have e1:(nd ns i).kids[j]=(q:Int):=by rw [← hq];simp [h2]
    rw [e1];rfl
   conv=>whnf
   repeat' (first|(refine Chk.mk ⟨hi0,hil,rfl⟩ ?_;conv=>whnf)|(refine Chk.mk ⟨hj0,hjl,rfl⟩ ?_;conv=>whnf)|(refine Chk.mk ⟨rfl,Nat.zero_add _,hi0,hil,rfl⟩ ?_;conv=>whnf)|(refine Chk.mk ⟨rfl,Nat.zero_add _,hm0,hml,rfl⟩ ?_;conv=>whnf)|(refine Chk.mk ⟨rfl,rfl⟩ ?_;conv=>whnf)|(refine And.intro ⟨hi0,hil,rfl⟩ ?_;conv=>whnf)|(refine And.intro ⟨hj0,hjl,rfl⟩ ?_;conv=>whnf)|(refine And.intro ⟨rfl,Nat.zero_add _,hi0,hil,rfl⟩ ?_;conv=>whnf)|(refine And.intro ⟨rfl,Nat.zero_add _,hm0,hml,rfl⟩ ?_;conv=>whnf)|(refine And.intro ⟨rfl,rfl⟩ ?_;conv=>whnf)|fail)
   have hval:(if IntKind.i64.wrap (1+g (0+((nd ns i).kids.getD j 0).toNat))>g (0+i) then IntKind.i64.wrap (1+g (0+((nd ns i).kids.getD j 0).toNat)) else g (0+i))=((mxF ns ((nd ns i).kids.take (j+1))+1:Nat):Int):=by
    rw [Nat.zero_add,Nat.zero_add,hwq,hgi,hmx]
    split<;>omega
   refine hlz _ _ (Le.cutEnv 2 rfl rfl ⟨rfl,rowU_cl (f:=g) 2 rfl (fun _ _=>rfl),trivial⟩ ?_ ?_) (ihz ⟨j+1,setF g i ((mxF ns ((nd ns i).kids.take (j+1))+1:Nat):Int)⟩ (by show _ - (j+1)<_ - j;omega) ⟨h2,fun x hx=>?_,?_⟩)
   ·skip
    repeat' (first|exact trivial|((conv=>whnf);first|exact trivial|refine⟨AV.le_refl _,?_⟩|refine⟨ABlk.le_refl _,?_⟩|(refine⟨AV.le_of_eq ?_,?_⟩;focus ((first|exact congrArg intV hw2|fail);done))|(refine⟨ABlk.le_of_eq ?_,?_⟩;focus ((first|exact congrArg intV hw2|fail);done))|fail)|fail)
   ·(conv=>whnf)
    refine⟨ABlk.le_refl _,?_⟩
    (conv=>whnf)
    refine⟨rowA_set (congrArg (fun x=>[intV x]) hval) (Nat.zero_add _) (fun _ _=>rfl),?_⟩
    repeat' (first|exact trivial|((conv=>whnf);first|exact trivial|refine⟨AV.le_refl _,?_⟩|refine⟨ABlk.le_refl _,?_⟩|fail)|fail)
   ·have hx:x<i:=hx
    simp only [setF];rw [if_neg (by omega)];exact hg x hx
   ·simp [setF]
  ·obtain rfl:j=(nd ns i).kids.length:=by have h2:¬ (j:Int)<((nd ns i).kids.length:Int):=h2;omega
   rw [List.take_length,← hdp i h] at hgi
   conv=>whnf
   refine hle _ _ (Le.cutEnv 2 rfl rfl ⟨rfl,rowA_cl _ _ _,trivial⟩ ?_ ?_) (ih ⟨i+1,g⟩ (by show _ - (i+1)<_ - i;omega) ⟨h,fun j hj=>?_⟩)
   ·skip
    repeat' (first|exact trivial|((conv=>whnf);first|exact trivial|refine⟨AV.le_refl _,?_⟩|refine⟨ABlk.le_refl _,?_⟩|(refine⟨AV.le_of_eq ?_,?_⟩;focus ((first|exact congrArg intV hw1|fail);done))|(refine⟨ABlk.le_of_eq ?_,?_⟩;focus ((first|exact congrArg intV hw1|fail);done))|fail)|fail)
   ·skip
    repeat' (first|exact trivial|((conv=>whnf);first|exact trivial|refine⟨AV.le_refl _,?_⟩|refine⟨ABlk.le_refl _,?_⟩|fail)|fail)
   ·by_cases e:j=i
    ·subst e;exact hgi
    ·exact hg j (by simp only at hj;omega)
 ·obtain rfl:i=ns.length:=by have h:¬ (i:Int)<(ns.length:Int):=h;omega
  have hv:=hf (ns.length - 1) (by omega)
  simp only [dpF] at hv
  rw [← hv,show f (ns.length - 1)=f root.toNat from congrArg f (by omega),show f root.toNat=f (0+root.toNat) by rw [Nat.zero_add]] at hk
  conv=>whnf
  refine⟨⟨rfl,Nat.zero_add _,by omega,by omega,rfl⟩,?_⟩
  conv=>whnf
  refine Chk.mk ⟨rfl,rfl⟩ ?_
  conv=>whnf
  exact hr _ _ rfl hk
set_option maxHeartbeats 4000000
def digB (c:UInt8):Bool:=decide (48≤c.toNat)&&decide (c.toNat≤57)
def partB (c:UInt8):Bool:=digB c || (decide (97≤c.toNat)&&decide (c.toNat≤122)) || (decide (65≤c.toNat)&&decide (c.toNat≤90)) || decide (c.toNat=95)
def cByteB (p:UInt8→Bool):AC:=fun args K k=>∃ (c:UInt8) (n:Int),n=(c.toNat:Int)∧args=[.p (.int .u8 n)]∧k (.ret (.p (.bool (p c)))) K
theorem rdigit_ok:COk 223 (cByteB digB):=by
 rintro args K k ⟨c,n,hn,rfl,hk⟩
 refine frame0P g0_ok 19 rfl fun Q hr=>?_
 have e1:decide (n≥48)=decide (48≤c.toNat):=by subst hn;rw [decide_eq_decide];omega
 have e2:decide (n≤57)=decide (c.toNat≤57):=by subst hn;rw [decide_eq_decide];omega
 conv=>whnf
 refine two_intro (fun h=>?_) (fun h=>?_)
 ·have h':decide (48≤c.toNat)=true:=by rw [← e1];exact h
  simp only [digB,h',Bool.true_and,← e2] at hk
  conv=>whnf
  exact hr _ _ rfl hk
 ·have h':decide (48≤c.toNat)=false:=by rw [← e1];exact h
  simp only [digB,h',Bool.false_and] at hk
  conv=>whnf
  exact hr _ _ rfl hk
def gRd3:AG:=gput 223 (cByteB digB) g0
theorem gRd3_ok:GOk Tryz.prog gRd3:=gput_ok rdigit_ok g0_ok
theorem rpart_ok:COk 221 (cByteB partB):=by
 rintro args K k ⟨c,n,hn,rfl,hk⟩
 refine frame0P gRd3_ok 19 rfl fun Q hr=>?_
 conv=>whnf
 refine⟨c,n,hn,rfl,?_⟩
 conv=>whnf
 repeat' (first|((first|refine two_eq ?_ ?_|refine two_ne ?_ ?_|refine two_not ?_ ?_|refine two_dec ?_ ?_|refine two_intro ?_ ?_)<;>intro h<;>conv=>whnf)|((first|refine Chk.mk ?_ ?_|refine And.intro ?_ ?_);(focus (((repeat' (refine And.intro ?_ ?_))<;>(first|omega|rfl|(simp only [List.length_append,List.length_cons,List.length_nil];omega)|fail));done));conv=>whnf)|(refine Exists.intro _ (And.intro rfl ?_))|(refine Exists.intro _ (Exists.intro _ (And.intro rfl ?_)))|(refine Exists.intro _ (Exists.intro _ (Exists.intro _ (And.intro rfl ?_))))|fail)
 all_goals (refine hr _ _ rfl (ret_eq hk ?_);clear hr hk;refine congrArg (fun b=>AV.p (.bool b)) ?_;rw [Bool.eq_iff_iff];simp only [partB,Bool.or_eq_true,Bool.and_eq_true,decide_eq_true_eq,beq_iff_eq,iff_true, *];try (first|omega|(simp;done)|(simp;omega)))
theorem wz3 {i:Nat} (h:i<9223372036854775807):IntKind.i64.wrap ((i:Int)+1)=((i+1:Nat):Int):=by rw [w64 ⟨by omega,by omega⟩];omega
theorem any_at {W:List Bs} {i:Nat} (hi:i<W.length) {l:Bs} (h:W.getD i []=l):W.any (·==l)=true:=by
 rw [List.any_eq_true]
 refine⟨W[i],List.getElem_mem hi,?_⟩
 rw [List.getD_eq_getElem?_getD,List.getElem?_eq_getElem hi] at h
 simpa using h
theorem any_succ {W:List Bs} {i:Nat} (hi:i<W.length) {l:Bs} (ha:(W.take i).any (·==l)=false) (h:W.getD i []≠l):(W.take (i+1)).any (·==l)=false:=by
 rw [List.getD_eq_getElem?_getD,List.getElem?_eq_getElem hi] at h
 rw [List.take_succ_eq_append_getElem hi,List.any_append,ha]
 simpa using h
def cRKept:AC:=fun args K k=>∃ l,args=[.p (.str l)]∧k (.ret (.p (.bool (keptP l)))) K
theorem rkept_ok:COk 222 cRKept:=by
 rintro args K k ⟨l,rfl,hk⟩
 refine frame0P g0_ok 19 rfl fun Q hr=>?_
 rw [keptP_any] at hk
 conv=>whnf
 refine loop_up (ι:=Nat) [0,3] (fun i=>[(4,.p (.int .i64 i)),(2,.p (.bool false))]) (fun _=>[(0,.arr 9 1 0 20 fun i=>[.p (.str (keptW.getD i []))])])
  (fun i=>i≤20∧(keptW.take i).any (·==l)=false) (fun i=>20 - i) 0 ⟨AV.le_refl _,AV.le_refl _,trivial⟩ ⟨upLe1 rfl (ABlk.arr_eq rfl fun i hi=>?_),trivial⟩ ⟨by omega,rfl⟩ ?_
 ·match i,hi with
  | 0,_=>rfl
  | 1,_=>rfl
  | 2,_=>rfl
  | 3,_=>rfl
  | 4,_=>rfl
  | 5,_=>rfl
  | 6,_=>rfl
  | 7,_=>rfl
  | 8,_=>rfl
  | 9,_=>rfl
  | 10,_=>rfl
  | 11,_=>rfl
  | 12,_=>rfl
  | 13,_=>rfl
  | 14,_=>rfl
  | 15,_=>rfl
  | 16,_=>rfl
  | 17,_=>rfl
  | 18,_=>rfl
  | 19,_=>rfl
  | n+20,h=>exact absurd h (by omega)
 intro Y hle i ⟨hi,ha⟩ ih
 conv=>whnf
 repeat' (first|((first|refine two_eq ?_ ?_|refine two_ne ?_ ?_|refine two_not ?_ ?_|refine two_dec ?_ ?_|refine two_intro ?_ ?_)<;>intro h<;>conv=>whnf)|((first|refine Chk.mk ?_ ?_|refine And.intro ?_ ?_);(focus (((repeat' (refine And.intro ?_ ?_))<;>(first|omega|rfl|(simp only [List.length_append,List.length_cons,List.length_nil];omega)|fail));done));conv=>whnf)|(refine Exists.intro _ (And.intro rfl ?_))|(refine Exists.intro _ (Exists.intro _ (And.intro rfl ?_)))|(refine Exists.intro _ (Exists.intro _ (Exists.intro _ (And.intro rfl ?_))))|fail)
 ·have hi2:i<keptW.length:=by show i<20;omega
  have h:keptW.getD i []=l:=by rw [← ‹keptW.getD _ []=l›];congr 1;omega
  rw [any_at hi2 h] at hk
  exact hr _ _ rfl hk
 ·have hi2:i<keptW.length:=by show i<20;omega
  have h:keptW.getD i []≠l:=by intro e;apply ‹keptW.getD _ []≠l›;rw [← e];congr 1;omega
  refine hle _ _ (Le.env ?_ ?_) (ih (i+1) (by omega) ⟨by omega,any_succ hi2 ha h⟩)
  ·skip
   repeat' (first|exact trivial|((conv=>whnf);first|exact trivial|refine⟨AV.le_refl _,?_⟩|refine⟨ABlk.le_refl _,?_⟩|(refine⟨AV.le_of_eq ?_,?_⟩;focus ((first|exact congrArg (fun x=>AV.p (.int .i64 x)) (wz3 (by omega))|fail);done))|(refine⟨ABlk.le_of_eq ?_,?_⟩;focus ((first|exact congrArg (fun x=>AV.p (.int .i64 x)) (wz3 (by omega))|fail);done))|fail)|fail)
  ·exact lesK.refl _
 ·have h:i=keptW.length:=by show i=20;omega
  rw [h,List.take_length] at ha
  rw [ha] at hk
  exact hr _ _ rfl hk
theorem inB_dig (c:UInt8):inB digitsT c=digB c:=by
 have h:∀ n<256,inB digitsT (UInt8.ofNat n)=digB (UInt8.ofNat n):=by decide +kernel
 have:=h c.toNat c.toNat_lt
 simpa using this
theorem inB_part (c:UInt8):inB partsT c=partB c:=by
 have h:∀ n<256,inB partsT (UInt8.ofNat n)=partB (UInt8.ofNat n):=by decide +kernel
 have:=h c.toNat c.toNat_lt
 simpa using this
def gRi:AG:=gput 222 cRKept (gput 221 (cByteB partB) gRd3)
theorem gRi_ok:GOk Tryz.prog gRi:=gput_ok rkept_ok (gput_ok rpart_ok gRd3_ok)
def cRIdent:AC:=fun args K k=>∃ l,args=[.p (.str l)]∧l.length<1000000∧k (.ret (.p (.bool (identP l)))) K
theorem identP_ref (l:Bs):identP l=(l.all partB&&(decide (l.length≥1)&&(decide (l.length≤20)&&(!digB (l.getD 0 0)&&!keptP l)))):=by
 have hp:inB partsT=partB:=funext inB_part
 simp only [identP,hp]
 cases l with
 | nil=>rfl
 | cons a r =>
  have h1:decide (Lib.indexByte digitsT ((a::r).getD 0 0)<0)=!digB ((a::r).getD 0 0):=by
   rw [← inB_dig];simp only [inB]
   by_cases hx:Lib.indexByte digitsT ((a::r).getD 0 0)<0
   ·rw [decide_eq_true hx,decide_eq_false (by omega)];rfl
   ·rw [decide_eq_false hx,decide_eq_true (by omega)];rfl
  have h2:((a::r)==[])=false:=rfl
  have h3:decide ((a::r).length≥1)=true:=by simp
  rw [h1,h2,h3]
  cases decide ((a::r).length≤20)<;>cases (a::r).all partB<;>rfl
theorem rident_ok:COk 195 cRIdent:=by
 rintro args K k ⟨l,rfl,hl,hk⟩
 refine frame0P gRi_ok 19 rfl fun Q hr=>?_
 rw [identP_ref] at hk
 conv=>whnf
 refine loop_up (ι:=Nat) [0] (fun i=>[(3,.p (.int .i64 i)),(2,.p (.bool false))]) (fun _=>[])
  (fun i=>i≤l.length∧(l.take i).all partB=true) (fun i=>l.length - i) 0 ⟨AV.le_refl _,AV.le_refl _,trivial⟩ trivial ⟨by omega,rfl⟩ ?_
 intro Y hle i ⟨hi,ha⟩ ih
 conv=>whnf
 repeat' (first|((first|refine two_eq ?_ ?_|refine two_ne ?_ ?_|refine two_not ?_ ?_|refine two_dec ?_ ?_|refine two_intro ?_ ?_)<;>intro h<;>conv=>whnf)|((first|refine Chk.mk ?_ ?_|refine And.intro ?_ ?_);(focus (((repeat' (refine And.intro ?_ ?_))<;>(first|omega|rfl|(simp only [List.length_append,List.length_cons,List.length_nil];omega)|fail));done));conv=>whnf)|(refine Exists.intro _ (And.intro rfl ?_))|(refine Exists.intro _ (Exists.intro _ (And.intro rfl ?_)))|(refine Exists.intro _ (Exists.intro _ (Exists.intro _ (And.intro rfl ?_))))|fail)
 ·refine⟨l.getD (Int.toNat i) 0,_,rfl,rfl,?_⟩
  have hi3:i<l.length:=by omega
  have hg:l.getD (Int.toNat i) 0=l[i]:=by rw [Int.toNat_natCast,List.getD_eq_getElem?_getD,List.getElem?_eq_getElem hi3];rfl
  rw [hg]
  conv=>whnf
  refine two_intro (fun h2=>?_) (fun h2=>?_)
  ·have h2:partB l[i]=false:=by simpa using h2
   have he:l.all partB=false:=by rw [List.all_eq_false];exact⟨l[i],by simp,by simp [h2]⟩
   rw [he] at hk
   conv=>whnf
   exact hr _ _ rfl hk
  ·have h2:partB l[i]=true:=by simpa using h2
   conv=>whnf
   refine hle _ _ (Le.env ?_ ?_) (ih (i+1) (by omega) ⟨by omega,?_⟩)
   ·skip
    repeat' (first|exact trivial|((conv=>whnf);first|exact trivial|refine⟨AV.le_refl _,?_⟩|refine⟨ABlk.le_refl _,?_⟩|(refine⟨AV.le_of_eq ?_,?_⟩;focus ((first|exact congrArg (fun x=>AV.p (.int .i64 x)) (wz3 (by omega))|fail);done))|(refine⟨ABlk.le_of_eq ?_,?_⟩;focus ((first|exact congrArg (fun x=>AV.p (.int .i64 x)) (wz3 (by omega))|fail);done))|fail)|fail)
   ·exact lesK.refl _
   ·rw [List.take_succ_eq_append_getElem hi3,List.all_append,ha];simp [h2]
 ·skip
  obtain rfl:i=l.length:=by omega
  rw [List.take_length] at ha
  rw [ha] at hk
  have h1:decide (l.length≥1)=true:=decide_eq_true (by omega)
  have h2:decide (l.length≤20)=true:=decide_eq_true (by omega)
  simp only [h1,h2,Bool.true_and] at hk
  refine⟨l.getD (Int.toNat 0) 0,_,rfl,rfl,?_⟩
  conv=>whnf
  refine two_intro (fun h2=>?_) (fun h2=>?_)
  ·have h2:digB (l.getD 0 0)=false:=by simpa using h2
   rw [h2] at hk
   conv=>whnf
   exact hr _ _ rfl hk
  ·have h2:digB (l.getD 0 0)=true:=by simpa using h2
   rw [h2] at hk
   conv=>whnf
   exact hr _ _ rfl hk
 ·skip
  obtain rfl:i=l.length:=by omega
  rw [List.take_length] at ha
  rw [ha] at hk
  have h1:decide (l.length≥1)=true:=decide_eq_true (by omega)
  have h2:decide (l.length≤20)=false:=decide_eq_false (by omega)
  simp only [h1,h2,Bool.true_and,Bool.false_and] at hk
  exact hr _ _ rfl hk
 ·skip
  obtain rfl:i=l.length:=by omega
  rw [List.take_length] at ha
  rw [ha] at hk
  have h1:decide (l.length≥1)=false:=decide_eq_false (by omega)
  simp only [h1,Bool.true_and,Bool.false_and] at hk
  exact hr _ _ rfl hk
end Go.Proofs.YtojjkleplnijaaaGreatDoor
