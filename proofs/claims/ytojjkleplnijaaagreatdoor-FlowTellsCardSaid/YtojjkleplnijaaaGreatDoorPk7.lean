/-
  On the way to flowTells_card: part 7 of 11.
-/
import Derived.RecoverIn
import Derived.KernelRfl
import Derived.Test.YtojjkleplnijaaaGreatDoorPk1
import Derived.Test.YtojjkleplnijaaaGreatDoorPk4
import Derived.Test.YtojjkleplnijaaaGreatDoorPk5
import Derived.Test.YtojjkleplnijaaaGreatDoorPk6
set_option linter.unusedVariables false
set_option linter.unusedSimpArgs false
namespace Go.Proofs.YtojjkleplnijaaaGreatDoor
open Go.AE Go.Ru
set_option maxRecDepth 100000
def cChan:AC:=fun args K k=>∃ d:Nat,∃ e ts ns mo op X,args=[pp]∧K=encP e ts ns op mo++X∧Fine d ts ns∧After e (chanS e ⟨ts,ns,mo⟩) intV op X k
theorem chan_ok:COk 245 cChan:=by
 rintro args K k ⟨d,e,ts,ns,mo,op,X,rfl,rfl,hf,hk⟩
 refine frameP g7_ok 9 rfl fun Q hr hp=>?_
 have hk:=hk.ak
 have hf:=hf.fin
 unfold chanS at hk
 conv=>whnf
 refine⟨_,_,_,_,_,_,rfl,rfl,hk.step (ident_le _ _) (fun t ts ns mo hl hk=>?_) (fun a er hb=>by ((conv=>whnf);exact hp _ _ rfl hb))⟩
 have hf:=hf.st hl
 conv=>whnf
 refine⟨[],_,_,_,_,_,_,_,_,_,_,_,rfl,rfl,PutK.nils hf.sz ?_⟩
 conv=>whnf
 exact hr _ _ _ _ _ _ rfl rfl hk
def g8:AG:=gput 229 cEx (gput 260 (cIndex 41) (gput 245 cChan g7))
theorem g8_ok:GOk Tryz.prog g8:=gput_ok ex_ok (gput_ok idx_ok' (gput_ok chan_ok g7_ok))
structure LC where
 ts:List Tok
 ns:List Nd
 mo:Int
 l:List Int
 n:Nat
def kidA (l:List Int):ABlk:=.arr 3 1 0 l.length fun i=>pvs (kidF l i)
theorem kidA_snoc (l:List Int) (x:Int) (f:Nat→List AV) (hf:f 0=[intV x]):(ABlk.arr 3 1 0 (l.length+1) (catF l.length (fun i=>pvs (kidF l i)) f)).le (kidA (l++[x])):=by
 refine ABlk.arr_eq (by simp) fun i hi=>?_
 by_cases h:i<l.length
 ·rw [catF_lt h]
  simp [kidF,List.getD_eq_getElem?_getD,List.getElem?_append_left h]
 ·obtain rfl:i=l.length:=by omega
  rw [catF_ge (Nat.le_refl _),Nat.sub_self,hf]
  simp [kidF,List.getD_eq_getElem?_getD,pvs,intV]
theorem kid_cl (l:List Int) (x:Int) (f:Nat→List AV) (n:Nat) (hf:f 0=[intV x]):(ABlk.arr 3 1 0 (l.length+1) (catF l.length (fun i=>pvs (kidF l i)) f)).cl n:=fun i hi=>by
 by_cases h:i<l.length
 ·rw [catF_lt h];rfl
 ·obtain rfl:i=l.length:=by omega
  rw [catF_ge (Nat.le_refl _),Nat.sub_self,hf];rfl
def cCall:AC:=fun args K k=>∃ d:Nat,∃ e ts ns mo op kd at_ tx X,args=[pp,.agg [.p (.int .i64 kd),.p (.int .i64 0),.p (.int .i64 at_),.p (.str tx),.p .nils]]∧K=encP e ts ns op mo++X∧op=40 - (d:Int)∧Fine d ts ns ∧
 After e (callS e d at_ tx ⟨ts,ns,mo⟩) intV op X k
theorem call_ok2:COk 246 cCall:=by
 rintro args K k ⟨d,e,ts,ns,mo,op,kd,at_,tx,X,rfl,rfl,ho,hf,hk⟩
 refine frameP g8_ok 19 rfl fun Q hr hp=>?_
 have hk:=hk.ak
 have hf:=hf.fin
 unfold callS at hk
 conv=>whnf
 refine⟨_,_,_,_,_,_,rfl,rfl,hk.step (ident_le _ _) (fun t ts ns mo hl hk=>?_) (fun a er hb=>by ((conv=>whnf);exact hp _ _ rfl hb))⟩
 have hf:=hf.st hl
 conv=>whnf
 refine⟨[],_,_,_,_,_,_,_,_,_,_,_,rfl,rfl,PutK.nils hf.sz ?_⟩
 conv=>whnf
 replace hk:AK ((withinS e d [40] [41] (listS (oneS (inS e d)) [(ns.length:Int)]) ⟨ts,ns++[⟨19,0,t.at_,t.tx,[]⟩],mo⟩).bind fun l s=>putS ⟨13,0,at_,tx,l⟩ s) _ _:=hk
 have hf:=hf.pt (n:=⟨19,0,t.at_,t.tx,[]⟩)
 generalize ns++[⟨19,0,t.at_,t.tx,[]⟩]=ns at hk hf
 cases hw:isS [40] ts with
 | false =>
  have hb:=hk.within_no hw
  refine⟨_,_,_,_,_,_,_,rfl,rfl,?_⟩
  conv=>whnf
  refine two_false hw ?_
  conv=>whnf
  refine⟨_,_,_,_,_,_,_,rfl,rfl,⟨fun a ts' ns' mo' h=>by simp [wantS,hw] at h,fun a er h=>?_⟩⟩
  simp only [wantS,hw,R.bad.injEq] at h
  obtain⟨rfl,rfl⟩:=h
  ((conv=>whnf);exact hp _ _ rfl hb)
 | true =>
  refine⟨_,_,_,_,_,_,_,rfl,rfl,?_⟩
  conv=>whnf
  refine two_true hw ?_
  conv=>whnf
  cases d with
  | zero =>
   have hb:=hk.within_deep hw
   refine two_true (by simp [ho]) ?_
   conv=>whnf
   refine⟨_,_,_,_,_,_,_,rfl,rfl,?_⟩
   ((conv=>whnf);exact hp _ _ rfl hb)
  | succ d =>
  refine two_false (by simp [ho];omega) ?_
  conv=>whnf
  refine⟨_,_,_,_,_,_,_,rfl,rfl,⟨fun a ts' ns' mo' h=>?_,fun a er h=>by simp [wantS,hw] at h⟩⟩
  simp only [wantS,hw,dropS,R.ok.injEq,PS.mk.injEq] at h
  obtain⟨-,rfl,rfl,rfl⟩:=h
  have hd2:d<1000:=by have:=hf.1;omega
  have hk:=hk.within hw (by simp)
  rw [← in_mo ho hd2] at hk
  have hf:=hf.opn hw
  conv=>whnf
  refine⟨_,_,_,_,_,_,_,rfl,rfl,?_⟩
  conv=>whnf
  refine two_intro (fun h2=>?_) (fun h2=>?_)
  ·have h2:isS [41] ts.tail=true:=h2
   simp only [listS,h2,bindO] at hk
   conv=>whnf
   refine⟨_,_,_,_,_,_,_,rfl,rfl,hk.step (want_le _ _ _) (fun t ts ns mo hl hk=>?_) (fun a er hb=>by ((conv=>whnf);exact hp _ _ rfl hb))⟩
   have hf:=hf.st hl
   conv=>whnf
   refine⟨[_],_,_,_,_,_,_,_,_,_,_,_,rfl,rfl,PutK.slr hf.sz rfl rfl rfl (allLt_ok ⟨trivial,rfl⟩) ?_⟩
   conv=>whnf
   rw [out_op ho hd2]
   exact hr _ _ _ _ _ _ rfl rfl hk
  ·have h2:isS [41] ts.tail=false:=h2
   simp only [listS,h2,oneS,bindA,bindO] at hk
   conv=>whnf
   refine⟨d,_,_,_,_,_,_,rfl,rfl,in_op ho hd2,hf.fine,hk.step (ex_le _ _ _) (fun x ts ns mo hl hk=>?_) (fun a er hb=>by ((conv=>whnf);exact hp _ _ rfl hb))⟩
   have hf:=hf.st hl
   conv=>whnf
   refine⟨by conv=>whnf,?_⟩
   conv=>whnf
   refine⟨by conv=>whnf,?_⟩
   conv=>whnf
   refine⟨⟨rfl,rfl,rfl,allLt_ok ⟨trivial,rfl⟩⟩,?_⟩
   conv=>whnf
   refine⟨⟨rfl,rfl,rfl,rfl,by decide,by decide⟩,?_⟩
   conv=>whnf
   refine loop_cut (ι:=LC) 7 (fun i=>⟨[(0,pp),(1,.fn 259 [] [.ptr 6 0 1 0 0,.ptr 2 0 1 0 0])],
     encP e i.ts i.ns (IntKind.i64.wrap (op+1)) i.mo++[.box 101 [pp],.box 61 [.p (.int .i64 kd),.p (.int .i64 0),.p (.int .i64 at_),.p (.str tx),.p .nils],.box 131 [.p (.int .i64 t.k.code),.p (.int .i64 t.n),.p (.int .i64 t.at_),.p (.str t.tx)],kidA i.l,.box 40 [.slr 5 0 0 i.l.length]]⟩)
    (fun i=>i.ts.length≤i.n∧i.n≤900000∧i.l.length+i.ts.length≤900000∧Fin d 3 i.ts i.ns∧AK ((commaL (oneS (inS e (d+1))) i.n i.l ⟨i.ts,i.ns,i.mo⟩).bind fun l s=>(wantS e [41] s).bind fun _ s=>putS ⟨13,0,at_,tx,l⟩ s)
     (fun a s=>k (.ret (intV a)) (encP e s.ts s.ns op s.mo++X)) (fun a er=>k (.pan (wrongV a er)) (deads 2++X)))
    (fun i=>i.n) ⟨ts,ns,mo,[_,_],ts.length⟩ rfl rfl ⟨AV.le_refl _,AV.le_refl _,trivial⟩ ⟨rfl,fun _ _=>rfl,rfl,rfl,rfl,allLt_ok ⟨⟨trivial,rfl⟩,rfl⟩,rfl,trivial⟩ ⟨ABlk.le_refl _,ABlk.le_refl _,ABlk.le_refl _,ABlk.le_refl _,ABlk.le_refl _,ABlk.arr_eq rfl (allLt_ok ⟨⟨trivial,rfl⟩,rfl⟩),ABlk.le_refl _,trivial⟩
    ⟨Nat.le_refl _,?_,?_,hf.lo (by omega),hk⟩ ?_
   ·have:=hf.s;show ts.length≤900000;omega
   ·have:=hf.s;show 2+ts.length≤900000;omega
   clear hk hf hl
   rintro Y hle ⟨ts,ns,mo,l,n⟩ ⟨hn,hn2,hln,hf,hk⟩ ih
   simp only at hn hn2 hln hf hk
   conv=>whnf
   refine⟨_,_,_,_,_,_,_,rfl,rfl,⟨fun h=>?_,fun h=>?_⟩⟩
   ·cases n with
    | zero=>have:=isS_pos h;simp only at this;omega
    | succ n =>
    have h:isS [44] ts=true:=h
    simp only [commaL,h,oneS,bindA,bindO,dropS] at hk
    conv=>whnf
    refine⟨d,_,_,_,_,_,_,rfl,rfl,in_op ho hd2,(hf.sk h).fine,hk.step (ex_le _ _ _) (fun x ts2 ns2 mo2 hl hk=>?_) (fun a er hb=>by ((conv=>whnf);exact hp _ _ rfl hb))⟩
    have hf:=(hf.sk h).st hl
    have hpos:=isS_pos h
    conv=>whnf
    refine⟨by conv=>whnf,?_⟩
    conv=>whnf
    refine⟨by conv=>whnf,?_⟩
    conv=>whnf
    refine⟨⟨rfl,rfl,rfl,allLt_ok ⟨trivial,rfl⟩⟩,?_⟩
    conv=>whnf
    refine⟨⟨rfl,rfl,rfl,rfl,?_,?_⟩,?_⟩
    ·show (l.length+1)*8≤140737488355328
     omega
    ·show l.length+1≤9223372036854775807
     omega
    conv=>whnf
    have hl2:=hl.2
    simp only [List.length_tail] at hl2
    refine hle _ _ (Le.cutEnv 7 rfl rfl ⟨rfl,fun _ _=>rfl,rfl,rfl,rfl,?_,rfl,trivial⟩ ?_ ?_) (ih ⟨ts2,ns2,mo2,l++[x],n⟩ (by simp only;omega) ⟨?_,?_,?_,hf.lo (by omega),hk⟩)
    ·exact kid_cl l x _ 7 rfl
    ·exact⟨AV.le_refl _,AV.le_refl _,trivial⟩
    ·exact⟨ABlk.le_refl _,ABlk.le_refl _,ABlk.le_refl _,ABlk.le_refl _,ABlk.le_refl _,kidA_snoc l x _ rfl,ABlk.le_of_eq (by simp),trivial⟩
    ·simp only;omega
    ·simp only;omega
    ·simp only [List.length_append,List.length_cons,List.length_nil];omega
   ·have h:isS [44] ts=false:=h
    have hk:AK ((wantS e [41] ⟨ts,ns,mo⟩).bind fun _ s=>putS ⟨13,0,at_,tx,l⟩ s) (fun a s=>k (.ret (intV a)) (encP e s.ts s.ns op s.mo++X)) (fun a er=>k (.pan (wrongV a er)) (deads 2++X)):=by
     cases n with
     | zero=>exact hk
     | succ n=>simp only [commaL,h,bindO] at hk;exact hk
    conv=>whnf
    refine⟨_,_,_,_,_,_,_,rfl,rfl,hk.step (want_le _ _ _) (fun _ ts ns mo hl hk=>?_) (fun a er hb=>by ((conv=>whnf);exact hp _ _ rfl hb))⟩
    have hf:=hf.st hl
    conv=>whnf
    refine⟨l,_,_,_,_,_,_,_,_,_,_,_,rfl,rfl,PutK.slr hf.sz rfl rfl rfl (fun _ _=>rfl) ?_⟩
    conv=>whnf
    rw [out_op ho hd2]
    exact hr _ _ _ _ _ _ rfl rfl hk
def g9:AG:=gput 246 cCall g8
theorem g9_ok:GOk Tryz.prog g9:=gput_ok call_ok2 g8_ok
def cNamed:AC:=fun args K k=>∃ d:Nat,∃ e ts ns mo op X,args=[pp]∧K=encP e ts ns op mo++X∧op=40 - (d:Int)∧Fine d ts ns ∧
 After e (namedS e d ⟨ts,ns,mo⟩) intV op X k
theorem named_ok:COk 247 cNamed:=by
 rintro args K k ⟨d,e,ts,ns,mo,op,X,rfl,rfl,ho,hf,hk⟩
 refine frameP g9_ok 19 rfl fun Q hr hp=>?_
 have hk:=hk.ak
 have hf:=hf.fin
 have hd:=hf.d
 unfold namedS at hk
 conv=>whnf
 refine⟨_,_,_,_,_,_,rfl,rfl,hk.step (ident_le _ _) (fun t ts ns mo hl hk=>?_) (fun a er hb=>by ((conv=>whnf);exact hp _ _ rfl hb))⟩
 have hf:=hf.st hl
 conv=>whnf
 refine⟨_,_,_,_,_,_,_,rfl,rfl,?_⟩
 conv=>whnf
 refine two_intro (fun h=>?_) (fun h=>?_)
 ·have h:isS [91] ts=true:=h
  simp only [h] at hk
  conv=>whnf
  refine⟨d,_,_,_,_,_,_,rfl,rfl,ho,by omega,hf.fine,hk.step (index_le _ _ _) (fun x ts ns mo hl hk=>?_) (fun a er hb=>by ((conv=>whnf);exact hp _ _ rfl hb))⟩
  have hf:=hf.st hl
  conv=>whnf
  refine⟨_,_,_,_,_,_,_,rfl,rfl,hk.step (want_le _ _ _) (fun _ ts ns mo hl hk=>?_) (fun a er hb=>by ((conv=>whnf);exact hp _ _ rfl hb))⟩
  have hf:=hf.st hl
  conv=>whnf
  refine⟨d,_,_,_,_,_,_,rfl,rfl,ho,hf.fine,hk.step (ex_le _ _ _) (fun y ts ns mo hl hk=>?_) (fun a er hb=>by ((conv=>whnf);exact hp _ _ rfl hb))⟩
  have hf:=hf.st hl
  conv=>whnf
  refine⟨[x,y],_,_,_,_,_,_,_,_,_,_,_,rfl,rfl,PutK.slr hf.sz rfl rfl rfl (allLt_ok ⟨⟨trivial,rfl⟩,rfl⟩) ?_⟩
  conv=>whnf
  exact hr _ _ _ _ _ _ rfl rfl hk
 ·have h:isS [91] ts=false:=h
  simp only [h] at hk
  conv=>whnf
  refine⟨_,_,_,_,_,_,_,rfl,rfl,hk.step (want_le _ _ _) (fun _ ts ns mo hl hk=>?_) (fun a er hb=>by ((conv=>whnf);exact hp _ _ rfl hb))⟩
  have hf:=hf.st hl
  conv=>whnf
  refine⟨_,_,_,_,_,_,_,rfl,rfl,⟨fun h=>?_,fun h=>?_⟩⟩
  ·have h:isS [105,110] ts=true:=h
   simp only [h,dropS] at hk
   conv=>whnf
   refine⟨d,_,_,_,_,_,_,rfl,rfl,(hf.sk h).fine,hk.step (chan_le _ _) (fun x ts2 ns2 mo2 hl hk=>?_) (fun a er hb=>by ((conv=>whnf);exact hp _ _ rfl hb))⟩
   have hf:=(hf.sk h).st hl
   conv=>whnf
   refine⟨[x],_,_,_,_,_,_,_,_,_,_,_,rfl,rfl,PutK.slr hf.sz rfl rfl rfl (allLt_ok ⟨trivial,rfl⟩) ?_⟩
   conv=>whnf
   exact hr _ _ _ _ _ _ rfl rfl hk
  have h:isS [105,110] ts=false:=h
  simp only [h] at hk
  conv=>whnf
  refine⟨_,_,_,_,_,_,_,rfl,rfl,⟨fun h=>?_,fun h=>?_⟩⟩
  ·have h:isS [99,97,108,108] ts=true:=h
   simp only [h,dropS] at hk
   conv=>whnf
   refine⟨d,_,_,_,_,_,_,_,_,_,rfl,rfl,ho,(hf.sk h).fine,hk.last (fun x ts2 ns2 mo2 hk=>?_) (fun a er hb=>by ((conv=>whnf);exact hp _ _ rfl hb))⟩
   conv=>whnf
   exact hr _ _ _ _ _ _ rfl rfl hk
  have h:isS [99,97,108,108] ts=false:=h
  simp only [h] at hk
  conv=>whnf
  refine⟨_,_,_,_,_,_,_,rfl,rfl,⟨fun h=>?_,fun h=>?_⟩⟩
  ·have h:isS [110,101,119] ts=true:=h
   simp only [h,dropS] at hk
   conv=>whnf
   refine⟨d,_,_,_,_,_,_,rfl,rfl,ho,(hf.sk h).fine,hk.step (ex_le _ _ _) (fun x ts2 ns2 mo2 hl hk=>?_) (fun a er hb=>by ((conv=>whnf);exact hp _ _ rfl hb))⟩
   have hf:=(hf.sk h).st hl
   conv=>whnf
   refine⟨[x],_,_,_,_,_,_,_,_,_,_,_,rfl,rfl,PutK.slr hf.sz rfl rfl rfl (allLt_ok ⟨trivial,rfl⟩) ?_⟩
   conv=>whnf
   exact hr _ _ _ _ _ _ rfl rfl hk
  have h:isS [110,101,119] ts=false:=h
  simp only [h] at hk
  conv=>whnf
  refine⟨d,_,_,_,_,_,_,rfl,rfl,ho,hf.fine,hk.step (ex_le _ _ _) (fun x ts2 ns2 mo2 hl hk=>?_) (fun a er hb=>by ((conv=>whnf);exact hp _ _ rfl hb))⟩
  have hf:=hf.st hl
  conv=>whnf
  refine⟨[x],_,_,_,_,_,_,_,_,_,_,_,rfl,rfl,PutK.slr hf.sz rfl rfl rfl (allLt_ok ⟨trivial,rfl⟩) ?_⟩
  conv=>whnf
  exact hr _ _ _ _ _ _ rfl rfl hk
def g10:AG:=gput 247 cNamed g9
theorem g10_ok:GOk Tryz.prog g10:=gput_ok named_ok g9_ok
def cPlain:AC:=fun args K k=>∃ d:Nat,∃ e ts ns mo op X,args=[pp]∧K=encP e ts ns op mo++X∧op=40 - (d:Int)∧Fine d ts ns ∧
 After e (plainS e d ⟨ts,ns,mo⟩) intV op X k
def hdK:List Tok→Int
 | []=>5
 | t::_=>t.k.code
def hdN:List Tok→Int
 | []=>0
 | t::_=>t.n
def hdT:List Tok→Bs
 | []=>[]
 | t::_=>t.tx
theorem enc_hd (e:Int) (ts:List Tok):encs e ts (Int.toNat 0)=[.int .i64 (hdK ts),.int .i64 (hdN ts),.int .i64 (hd e ts),.str (hdT ts)]:=by cases ts<;>rfl
theorem plain_ok:COk 231 cPlain:=by
 rintro args K k ⟨d,e,ts,ns,mo,op,X,rfl,rfl,ho,hf,hk⟩
 refine frameP g10_ok 19 rfl fun Q hr hp=>?_
 have hk:=hk.ak
 have hf:=hf.fin
 have hd:=hf.d
 unfold plainS at hk
 simp only at hk
 conv=>whnf
 refine⟨by simp<;>omega,?_⟩
 conv=>whnf
 rw [enc_hd]
 conv=>whnf
 refine⟨_,_,_,_,_,_,_,rfl,rfl,⟨fun h=>?_,fun h=>?_⟩⟩
 ·have h:isS [111,117,116] ts=true:=h
  simp only [h,dropS] at hk
  conv=>whnf
  refine⟨d,_,_,_,_,_,_,rfl,rfl,(hf.sk h).fine,hk.step (chan_le _ _) (fun c ts2 ns2 mo2 hl hk=>?_) (fun a er hb=>by ((conv=>whnf);exact hp _ _ rfl hb))⟩
  have hf:=(hf.sk h).st hl
  conv=>whnf
  refine⟨d,_,_,_,_,_,_,rfl,rfl,ho,hf.fine,hk.step (ex_le _ _ _) (fun x ts3 ns3 mo3 hl hk=>?_) (fun a er hb=>by ((conv=>whnf);exact hp _ _ rfl hb))⟩
  have hf:=hf.st hl
  conv=>whnf
  refine⟨[c,x],_,_,_,_,_,_,_,_,_,_,_,rfl,rfl,PutK.slr hf.sz rfl rfl rfl (allLt_ok ⟨⟨trivial,rfl⟩,rfl⟩) ?_⟩
  conv=>whnf
  exact hr _ _ _ _ _ _ rfl rfl hk
 have h:isS [111,117,116] ts=false:=h
 simp only [h] at hk
 conv=>whnf
 refine⟨_,_,_,_,_,_,_,rfl,rfl,⟨fun h=>?_,fun h=>?_⟩⟩
 ·have h:isS [99,97,108,108] ts=true:=h
  simp only [h,dropS] at hk
  conv=>whnf
  refine⟨d,_,_,_,_,_,_,_,_,_,rfl,rfl,ho,(hf.sk h).fine,hk.last (fun x ts2 ns2 mo2 hk=>?_) (fun a er hb=>by ((conv=>whnf);exact hp _ _ rfl hb))⟩
  conv=>whnf
  exact hr _ _ _ _ _ _ rfl rfl hk
 have h:isS [99,97,108,108] ts=false:=h
 simp only [h] at hk
 conv=>whnf
 refine⟨_,_,_,_,_,_,_,rfl,rfl,⟨fun h=>?_,fun h=>?_⟩⟩
 ·have h:isS [116,104,114,111,119] ts=true:=h
  simp only [h,dropS] at hk
  conv=>whnf
  refine⟨d,_,_,_,_,_,_,rfl,rfl,ho,(hf.sk h).fine,hk.step (ex_le _ _ _) (fun x ts2 ns2 mo2 hl hk=>?_) (fun a er hb=>by ((conv=>whnf);exact hp _ _ rfl hb))⟩
  have hf:=(hf.sk h).st hl
  conv=>whnf
  refine⟨[x],_,_,_,_,_,_,_,_,_,_,_,rfl,rfl,PutK.slr hf.sz rfl rfl rfl (allLt_ok ⟨trivial,rfl⟩) ?_⟩
  conv=>whnf
  exact hr _ _ _ _ _ _ rfl rfl hk
 have h:isS [116,104,114,111,119] ts=false:=h
 simp only [h] at hk
 conv=>whnf
 refine⟨_,_,_,_,_,_,_,rfl,rfl,⟨fun h=>?_,fun h=>?_⟩⟩
 ·have h:isS [114,101,116,117,114,110] ts=true:=h
  simp only [h,dropS] at hk
  have hf:=hf.sk h
  conv=>whnf
  refine⟨_,_,_,_,_,_,_,rfl,rfl,?_⟩
  conv=>whnf
  refine two_intro (fun h=>?_) (fun h=>?_)
  ·have h:isS [59] ts.tail=true:=h
   simp only [h] at hk
   conv=>whnf
   refine⟨[],_,_,_,_,_,_,_,_,_,_,_,rfl,rfl,PutK.nils hf.sz ?_⟩
   conv=>whnf
   exact hr _ _ _ _ _ _ rfl rfl hk
  ·have h:isS [59] ts.tail=false:=h
   simp only [h] at hk
   conv=>whnf
   refine⟨d,_,_,_,_,_,_,rfl,rfl,ho,hf.fine,hk.step (ex_le _ _ _) (fun x ts2 ns2 mo2 hl hk=>?_) (fun a er hb=>by ((conv=>whnf);exact hp _ _ rfl hb))⟩
   have hf:=hf.st hl
   conv=>whnf
   refine⟨[x],_,_,_,_,_,_,_,_,_,_,_,rfl,rfl,PutK.slr hf.sz rfl rfl rfl (allLt_ok ⟨trivial,rfl⟩) ?_⟩
   conv=>whnf
   exact hr _ _ _ _ _ _ rfl rfl hk
 have h:isS [114,101,116,117,114,110] ts=false:=h
 simp only [h] at hk
 conv=>whnf
 refine⟨d,_,_,_,_,_,_,rfl,rfl,ho,hf.fine,hk.last (fun x ts2 ns2 mo2 hk=>?_) (fun a er hb=>by ((conv=>whnf);exact hp _ _ rfl hb))⟩
 conv=>whnf
 exact hr _ _ _ _ _ _ rfl rfl hk
def g11:AG:=gput 231 cPlain g10
theorem g11_ok:GOk Tryz.prog g11:=gput_ok plain_ok g10_ok
def cStmt (D:Nat):AC:=fun args K k=>∃ d:Nat,∃ e ts ns mo op X,args=[pp]∧K=encP e ts ns op mo++X∧op=40 - (d:Int)∧d<D∧Fine d ts ns∧After e (stmtS e d ⟨ts,ns,mo⟩) intV op X k
def cBlock (D:Nat):AC:=fun args K k=>∃ d:Nat,∃ e ts ns mo op X,args=[pp]∧K=encP e ts ns op mo++X∧op=40 - (d:Int)∧d≤D∧Fine d ts ns∧After e (blockB e d (inStmtS e d) ⟨ts,ns,mo⟩) intV op X k
theorem block_ok {D:Nat} (hS:COk 216 (cStmt D)):COk 230 (cBlock D):=by
 rintro args K k ⟨d,e,ts,ns,mo,op,X,rfl,rfl,ho,hd,hf,hk⟩
 refine frameP (G:=gput 216 (cStmt D) g11) (gput_ok hS g11_ok) 19 rfl fun Q hr hp=>?_
 have hk:=hk.ak
 have hf:=hf.fin
 unfold blockB at hk
 simp only at hk
 conv=>whnf
 refine⟨by simp<;>omega,?_⟩
 conv=>whnf
 rw [enc_hd]
 conv=>whnf
 cases hw:isS [123] ts with
 | false =>
  have hb:=hk.within_no hw
  refine⟨_,_,_,_,_,_,_,rfl,rfl,?_⟩
  conv=>whnf
  refine two_false hw ?_
  conv=>whnf
  refine⟨_,_,_,_,_,_,_,rfl,rfl,⟨fun a ts' ns' mo' h=>by simp [wantS,hw] at h,fun a er h=>?_⟩⟩
  simp only [wantS,hw,R.bad.injEq] at h
  obtain⟨rfl,rfl⟩:=h
  ((conv=>whnf);exact hp _ _ rfl hb)
 | true =>
  refine⟨_,_,_,_,_,_,_,rfl,rfl,?_⟩
  conv=>whnf
  refine two_true hw ?_
  conv=>whnf
  cases d with
  | zero =>
   have hb:=hk.within_deep hw
   refine two_true (by simp [ho]) ?_
   conv=>whnf
   refine⟨_,_,_,_,_,_,_,rfl,rfl,?_⟩
   ((conv=>whnf);exact hp _ _ rfl hb)
  | succ d =>
  refine two_false (by simp [ho];omega) ?_
  conv=>whnf
  refine⟨_,_,_,_,_,_,_,rfl,rfl,⟨fun a ts' ns' mo' h=>?_,fun a er h=>by simp [wantS,hw] at h⟩⟩
  simp only [wantS,hw,dropS,R.ok.injEq,PS.mk.injEq] at h
  obtain⟨-,rfl,rfl,rfl⟩:=h
  have hd2:d<1000:=by have:=hf.1;omega
  have hk:=hk.within hw (by simp)
  rw [← in_mo ho hd2] at hk
  have hf:=hf.opn hw
  conv=>whnf
  refine loop_nil (ι:=LC) 3 1 (fun i=>pvs (kidF [] i)) (fun i=>⟨[(1,.ptr 2 0 1 0 0),(3,.ptr 6 0 1 0 0)],
    encP e i.ts i.ns (IntKind.i64.wrap (op+1)) i.mo++[.box 101 [pp],.box 4 [.p (.bool false)],.box 61 [.p (.int .i64 6),.p (.int .i64 0),.p (.int .i64 (Ru.hd e ts)),.p (.str []),.p .nils],.box 40 [.p .nils],.box 40 [.slr 7 0 0 i.l.length],kidA i.l]⟩)
   (fun i=>i.ts.length<i.n∧i.n≤900001∧i.l.length+i.ts.length≤900000∧Fin d 3 i.ts i.ns∧AK ((stmtsL (stmtS e d) i.n i.l ⟨i.ts,i.ns,i.mo⟩).bind fun l s=>(wantS e [125] s).bind fun _ s=>putS ⟨6,0,Ru.hd e ts,[],l⟩ s)
    (fun a s=>k (.ret (intV a)) (encP e s.ts s.ns op s.mo++X)) (fun a er=>k (.pan (wrongV a er)) (deads 2++X)))
   (fun i=>i.n) ⟨ts.tail,ns,(if IntKind.i64.wrap (op+1)>mo then IntKind.i64.wrap (op+1) else mo),[],ts.tail.length+1⟩
   (encP e ts.tail ns (IntKind.i64.wrap (op+1)) (if IntKind.i64.wrap (op+1)>mo then IntKind.i64.wrap (op+1) else mo)++[.box 101 [pp],.box 4 [.p (.bool false)],.box 61 [.p (.int .i64 6),.p (.int .i64 0),.p (.int .i64 (Ru.hd e ts)),.p (.str []),.p .nils],.box 40 [.p .nils],.box 40 [.slr 7 0 0 0]])
   rfl ⟨.inl (AV.le_refl _),.inl (AV.le_refl _),trivial⟩
   ?_ rfl
   ⟨Nat.lt_succ_self _,?_,?_,hf.lo (by omega),hk⟩ ?_
  ·exact⟨.inl (ABlk.le_refl _),.inl (ABlk.le_refl _),.inl (ABlk.le_refl _),.inl (ABlk.le_refl _),.inl (ABlk.le_refl _),.inl (ABlk.le_refl _),.inr ⟨_,_,_,rfl,rfl,.inr ⟨rfl,rfl⟩,trivial⟩,trivial⟩
  ·have:=hf.s;show ts.tail.length+1≤900001;omega
  ·have:=hf.s;show 0+ts.tail.length≤900000;omega
  clear hk hf
  rintro Y hle ⟨ts,ns,mo,l,n⟩ ⟨hn,hn2,hln,hf,hk⟩ ih
  simp only at hn hn2 hln hf hk
  cases n with
  | zero=>omega
  | succ n =>
  conv=>whnf
  refine⟨_,_,_,_,_,_,_,rfl,rfl,?_⟩
  conv=>whnf
  refine two_intro (fun h=>?_) (fun h=>?_)
  ·have h:isS [125] ts=false:=nt h
   simp only [stmtsL,h,bindA] at hk
   conv=>whnf
   refine⟨d,_,_,_,_,_,_,rfl,rfl,in_op ho hd2,by omega,hf.fine,hk.step (stmt_le _ _ _) (fun x ts2 ns2 mo2 hl hk=>?_) (fun a er hb=>by ((conv=>whnf);exact hp _ _ rfl hb))⟩
   have hf:=hf.st hl
   conv=>whnf
   refine⟨by conv=>whnf,?_⟩
   conv=>whnf
   refine⟨by conv=>whnf,?_⟩
   conv=>whnf
   refine⟨⟨rfl,rfl,rfl,allLt_ok ⟨trivial,rfl⟩⟩,?_⟩
   conv=>whnf
   refine⟨⟨rfl,rfl,rfl,rfl,?_,?_⟩,?_⟩
   ·show (l.length+1)*8≤140737488355328
    omega
   ·show l.length+1≤9223372036854775807
    omega
   conv=>whnf
   have hl2:=hl.2
   simp only at hl2
   refine hle _ _ (Le.cutEnv 8 rfl rfl ⟨rfl,fun _ _=>rfl,rfl,rfl,rfl,rfl,rfl,?_,trivial⟩ ?_ ?_) (ih ⟨ts2,ns2,mo2,l++[x],n⟩ (by simp only;omega) ⟨?_,?_,?_,hf.lo (by omega),hk⟩)
   ·exact kid_cl l x _ 8 rfl
   ·exact⟨AV.le_refl _,AV.le_refl _,trivial⟩
   ·exact⟨ABlk.le_refl _,ABlk.le_refl _,ABlk.le_refl _,ABlk.le_refl _,ABlk.le_refl _,ABlk.le_refl _,ABlk.le_of_eq (by simp),kidA_snoc l x _ rfl,trivial⟩
   ·simp only;omega
   ·simp only;omega
   ·simp only [List.length_append,List.length_cons,List.length_nil];omega
  ·have h:isS [125] ts=true:=nf h
   simp only [stmtsL,h,bindO] at hk
   conv=>whnf
   refine⟨_,_,_,_,_,_,_,rfl,rfl,hk.step (want_le _ _ _) (fun _ ts ns mo hl hk=>?_) (fun a er hb=>by ((conv=>whnf);exact hp _ _ rfl hb))⟩
   have hf:=hf.st hl
   conv=>whnf
   refine⟨l,_,_,_,_,_,_,_,_,_,_,_,rfl,rfl,PutK.slr hf.sz rfl rfl rfl (fun _ _=>rfl) ?_⟩
   conv=>whnf
   refine⟨by conv=>whnf,?_⟩
   conv=>whnf
   rw [out_op ho hd2]
   exact hr _ _ _ _ _ _ rfl rfl hk
theorem stmtS_eq (e:Int) (d:Nat) (s:PS):stmtS e d s=stmtB e d (inStmtS e d) s:=by cases d<;>rfl
theorem blk_le (e:Int) (d:Nat):Dm 3 1 (blockB e d (inStmtS e d)):=block_le e d ((inStmt_le e d).weak (by omega) (by omega))
theorem stmt_step {D:Nat} (hB:COk 230 (cBlock D)):COk 216 (cStmt (D+1)):=by
 rintro args K k ⟨d,e,ts,ns,mo,op,X,rfl,rfl,ho,hd,hf,hk⟩
 refine frameP (G:=gput 230 (cBlock D) g11) (gput_ok hB g11_ok) 19 rfl fun Q hr hp=>?_
 rw [stmtS_eq] at hk
 have hk:=hk.ak
 have hf:=hf.fin
 unfold stmtB at hk
 simp only at hk
 conv=>whnf
 refine⟨by simp<;>omega,?_⟩
 conv=>whnf
 rw [enc_hd]
 conv=>whnf
 refine⟨_,_,_,_,_,_,_,rfl,rfl,⟨fun h=>?_,fun h=>?_⟩⟩
 ·have h:isS [105,102] ts=true:=h
  simp only [h,dropS] at hk
  conv=>whnf
  refine⟨d,_,_,_,_,_,_,rfl,rfl,ho,(hf.sk h).fine,hk.step (ex_le _ _ _) (fun x ts2 ns2 mo2 hl hk=>?_) (fun a er hb=>by ((conv=>whnf);exact hp _ _ rfl hb))⟩
  have hf:=(hf.sk h).st hl
  conv=>whnf
  refine⟨d,_,_,_,_,_,_,rfl,rfl,ho,by omega,hf.fine,hk.step (blk_le _ _ _) (fun a ts3 ns3 mo3 hl hk=>?_) (fun a er hb=>by ((conv=>whnf);exact hp _ _ rfl hb))⟩
  have hf:=hf.st hl
  conv=>whnf
  refine⟨_,_,_,_,_,_,_,rfl,rfl,⟨fun h=>?_,fun h=>?_⟩⟩
  ·have h:isS [101,108,115,101] ts3=true:=h
   simp only [h] at hk
   conv=>whnf
   refine⟨d,_,_,_,_,_,_,rfl,rfl,ho,by omega,(hf.sk h).fine,hk.step (blk_le _ _ _) (fun b ts4 ns4 mo4 hl hk=>?_) (fun a er hb=>by ((conv=>whnf);exact hp _ _ rfl hb))⟩
   have hf:=(hf.sk h).st hl
   conv=>whnf
   refine⟨[x,a,b],_,_,_,_,_,_,_,_,_,_,_,rfl,rfl,PutK.slr hf.sz rfl rfl rfl (allLt_ok ⟨⟨⟨trivial,rfl⟩,rfl⟩,rfl⟩) ?_⟩
   conv=>whnf
   exact hr _ _ _ _ _ _ rfl rfl hk
  ·have h:isS [101,108,115,101] ts3=false:=h
   simp only [h] at hk
   conv=>whnf
   refine⟨[],_,_,_,_,_,_,_,_,_,_,_,rfl,rfl,PutK.nils hf.sz ?_⟩
   have hf:=hf.pt (n:=⟨6,0,Ru.hd e ts,[],[]⟩)
   conv=>whnf
   refine⟨[x,a,ns3.length],_,_,_,_,_,_,_,_,_,_,_,rfl,rfl,PutK.slr hf.sz rfl rfl rfl (allLt_ok ⟨⟨⟨trivial,rfl⟩,rfl⟩,rfl⟩) ?_⟩
   conv=>whnf
   exact hr _ _ _ _ _ _ rfl rfl hk
 have h:isS [105,102] ts=false:=h
 simp only [h] at hk
 conv=>whnf
 refine⟨_,_,_,_,_,_,_,rfl,rfl,⟨fun h=>?_,fun h=>?_⟩⟩
 ·have h:isS [119,104,105,108,101] ts=true:=h
  simp only [h,dropS] at hk
  conv=>whnf
  refine⟨d,_,_,_,_,_,_,rfl,rfl,ho,(hf.sk h).fine,hk.step (ex_le _ _ _) (fun x ts2 ns2 mo2 hl hk=>?_) (fun a er hb=>by ((conv=>whnf);exact hp _ _ rfl hb))⟩
  have hf:=(hf.sk h).st hl
  conv=>whnf
  refine⟨d,_,_,_,_,_,_,rfl,rfl,ho,by omega,hf.fine,hk.step (blk_le _ _ _) (fun a ts3 ns3 mo3 hl hk=>?_) (fun a er hb=>by ((conv=>whnf);exact hp _ _ rfl hb))⟩
  have hf:=hf.st hl
  conv=>whnf
  refine⟨[x,a],_,_,_,_,_,_,_,_,_,_,_,rfl,rfl,PutK.slr hf.sz rfl rfl rfl (allLt_ok ⟨⟨trivial,rfl⟩,rfl⟩) ?_⟩
  conv=>whnf
  exact hr _ _ _ _ _ _ rfl rfl hk
 have h:isS [119,104,105,108,101] ts=false:=h
 simp only [h] at hk
 conv=>whnf
 refine⟨_,_,_,_,_,_,_,rfl,rfl,⟨fun h=>?_,fun h=>?_⟩⟩
 ·have h:isS [116,114,121] ts=true:=h
  simp only [h,dropS] at hk
  conv=>whnf
  refine⟨d,_,_,_,_,_,_,rfl,rfl,ho,by omega,(hf.sk h).fine,hk.step (blk_le _ _ _) (fun a ts2 ns2 mo2 hl hk=>?_) (fun a er hb=>by ((conv=>whnf);exact hp _ _ rfl hb))⟩
  have hf:=(hf.sk h).st hl
  conv=>whnf
  refine⟨_,_,_,_,_,_,_,rfl,rfl,hk.step (want_le _ _ _) (fun _ ts3 ns3 mo3 hl hk=>?_) (fun a er hb=>by ((conv=>whnf);exact hp _ _ rfl hb))⟩
  have hf:=hf.st hl
  conv=>whnf
  refine⟨_,_,_,_,_,_,rfl,rfl,hk.step (ident_le _ _) (fun t ts4 ns4 mo4 hl hk=>?_) (fun a er hb=>by ((conv=>whnf);exact hp _ _ rfl hb))⟩
  have hf:=hf.st hl
  conv=>whnf
  refine⟨d,_,_,_,_,_,_,rfl,rfl,ho,by omega,hf.fine,hk.step (blk_le _ _ _) (fun b ts5 ns5 mo5 hl hk=>?_) (fun a er hb=>by ((conv=>whnf);exact hp _ _ rfl hb))⟩
  have hf:=hf.st hl
  conv=>whnf
  refine⟨[a,b],_,_,_,_,_,_,_,_,_,_,_,rfl,rfl,PutK.slr hf.sz rfl rfl rfl (allLt_ok ⟨⟨trivial,rfl⟩,rfl⟩) ?_⟩
  conv=>whnf
  exact hr _ _ _ _ _ _ rfl rfl hk
 have h:isS [116,114,121] ts=false:=h
 simp only [h] at hk
 conv=>whnf
 refine⟨d,_,_,_,_,_,_,rfl,rfl,ho,hf.fine,hk.step (plain_le _ _ _) (fun x ts2 ns2 mo2 hl hk=>?_) (fun a er hb=>by ((conv=>whnf);exact hp _ _ rfl hb))⟩
 have hf:=hf.st hl
 conv=>whnf
 refine⟨_,_,_,_,_,_,_,rfl,rfl,hk.step (want_le _ _ _) (fun _ ts3 ns3 mo3 hl hk=>?_) (fun a er hb=>by ((conv=>whnf);exact hp _ _ rfl hb))⟩
 conv=>whnf
 exact hr _ _ _ _ _ _ rfl rfl hk
theorem stmt_ok (D:Nat):COk 216 (cStmt D):=by
 induction D with
 | zero =>
  rintro args K k ⟨d,e,ts,ns,mo,op,X,-,-,-,h,-⟩
  omega
 | succ D ih=>exact stmt_step (block_ok ih)
def cTyped:AC:=fun args K k=>∃ d:Nat,∃ e ts ns mo op kd at_ tx X,args=[pp,.agg [.p (.int .i64 kd),.p (.int .i64 0),.p (.int .i64 at_),.p (.str tx),.p .nils]]∧K=encP e ts ns op mo++X∧Fine d ts ns ∧
 After e (typedS e kd at_ tx ⟨ts,ns,mo⟩) intV op X k
theorem typed_ok:COk 183 cTyped:=by
 rintro args K k ⟨d,e,ts,ns,mo,op,kd,at_,tx,X,rfl,rfl,hf,hk⟩
 refine frameP g7_ok 19 rfl fun Q hr hp=>?_
 have hk:=hk.ak
 have hf:=hf.fin
 unfold typedS at hk
 conv=>whnf
 refine⟨_,_,_,_,_,_,rfl,rfl,?_⟩
 conv=>whnf
 refine two_intro (fun h=>?_) (fun h=>?_)
 ·have h:(typesS ts==0)=true:=h
  simp only [h] at hk
  have hb:=hk
  conv=>whnf
  refine⟨_,_,_,_,_,_,_,rfl,rfl,?_⟩
  ((conv=>whnf);exact hp _ _ rfl hb)
 ·have h:(typesS ts==0)=false:=h
  simp only [h] at hk
  obtain⟨t,r,rfl⟩:∃ t r,ts=t::r:=by
   cases ts with
   | nil=>simp [typesS,isS] at h
   | cons t r=>exact⟨t,r,rfl⟩
  conv=>whnf
  refine⟨_,_,_,_,_,_,_,rfl,rfl,?_⟩
  conv=>whnf
  refine⟨[],_,_,_,_,_,_,_,_,_,_,_,rfl,rfl,PutK.nils hf.sz ?_⟩
  conv=>whnf
  exact hr _ _ _ _ _ _ rfl rfl hk
theorem frameW {G:AG} (hG:GOk Tryz.prog G) (n:Nat) {f:FuncId} {args:List AV} {e:Int} {ts:List Tok} {ns:List Nd} {op mo:Int} {X:List ABlk} {k:AO→List ABlk→Prop} (hcl:AV.cls 2 args=true)
  (h:∀ Q:AO→List ABlk→Prop,
   (∀ v K' v' K2 ts' ns' op' mo',Wk1 2 v K' v' K2→v'.cl 2=true→takeN K2 2=encP e ts' ns' op' mo'→k (.ret v') (encP e ts' ns' op' mo'++X)→Q (.ret v) K') →
   (∀ v K',v.cl 0=true→k (.pan v) (deads 2++X)→Q (.pan v) K')→acall1 T0 G n f args (encP e ts ns op mo) Q) :
  ACalls Tryz.prog f args (encP e ts ns op mo++X) k:=by
 refine (ACalls.frame (K0:=encP e ts ns op mo) (k:=fun ao K1=>k ao (K1++X)) hcl (fun r _=>encP_cl e ts ns op mo r)
  (ACalls.post (k:=fun ao K1=>∃ v' K2,Wk1 2 ao.val K1 v' K2∧frameK 2 (fun ao K1=>k ao (K1++X)) (ao.with v') K2) (call_ok hG n f args _ _ (h _ ?_ ?_)) ?_)).mono ?_
 ·intro v K' v' K2 ts' ns' op' mo' hw h1 h3 h4
  have hl:2≤K2.length:=by
   have:=congrArg List.length h3
   match K2,h3 with
   | [],h3=>simp [takeN,encP] at h3
   | [_],h3=>simp [takeN,encP] at h3
   | _::_::_,_=>simp
  refine⟨v',K2,hw,h1,hl,fun r hr=>?_,?_⟩
  ·have:=encP_cl e ts' ns' op' mo' r
   rw [← h3,hp_takeN,if_pos hr] at this;exact this
  ·show k (.ret v') (takeN K2 2++X)
   rw [h3];exact h4
 ·intro v K' h1 h2;exact⟨v,K',Wk1.refl _ _ _,h1,h2⟩
 ·rintro (v|v) K1 ⟨v',K2,h1,h2⟩
  ·exact⟨v',K2,h1,h2⟩
  ·exact⟨v',K2,h1,h2⟩
 ·rintro ao K ⟨K1,rfl,h⟩;exact h
def g12:AG:=gput 216 (cStmt 41) (gput 183 cTyped g11)
theorem g12_ok:GOk Tryz.prog g12:=gput_ok (stmt_ok 41) (gput_ok typed_ok g11_ok)
def kidV (l:List Int):AV:=.p (.sl 1 l.length (kidF l))
def cVars:AC:=fun args K k=>∃ d:Nat,∃ e ts ns mo op kind X,args=[pp,.p (.int .i64 kind)]∧K=encP e ts ns op mo++X∧Fine d ts ns ∧
 After e (varsS e kind ⟨ts,ns,mo⟩) kidV op X k
theorem vars_ok:COk 131 cVars:=by
 rintro args K k ⟨d,e,ts,ns,mo,op,kind,X,rfl,rfl,hf,hk⟩
 refine frameW g12_ok 19 rfl fun Q hr hp=>?_
 have hk:=hk.ak
 have hf:=hf.fin
 unfold varsS at hk
 conv=>whnf
 refine loop_nil (ι:=LC) 3 1 (fun i=>pvs (kidF [] i)) (fun i=>⟨[(0,pp),(1,.p (.int .i64 kind)),(5,.slr 2 0 0 i.l.length)],encP e i.ts i.ns op i.mo++[kidA i.l]⟩)
   (fun i=>i.ts.length≤i.n∧i.n≤900001∧i.l.length+i.ts.length≤900000∧Fin d 0 i.ts i.ns∧AK (varsL e kind i.n i.l ⟨i.ts,i.ns,i.mo⟩)
    (fun a s=>k (.ret (kidV a)) (encP e s.ts s.ns op s.mo++X)) (fun a er=>k (.pan (wrongV a er)) (deads 2++X)))
   (fun i=>i.n) ⟨ts,ns,mo,[],ts.length⟩ (encP e ts ns op mo)
   rfl ⟨.inl (AV.le_refl _),.inl (AV.le_refl _),.inr ⟨rfl,rfl⟩,trivial⟩ (nswK.refl _ _) rfl
   ⟨Nat.le_refl _,?_,?_,hf,hk⟩ ?_
 ·have:=hf.s;show ts.length≤900001;omega
 ·have:=hf.s;show 0+ts.length≤900000;omega
 clear hk hf
 rintro Y hle ⟨ts,ns,mo,l,n⟩ ⟨hn,hn2,hln,hf,hk⟩ ih
 simp only at hn hn2 hln hf hk
 conv=>whnf
 refine⟨_,_,_,_,_,_,_,rfl,rfl,?_⟩
 conv=>whnf
 refine two_intro (fun h=>?_) (fun h=>?_)
 ·have h:isS [118,97,114] ts=true:=h
  cases n with
  | zero=>have:=isS_pos h;simp only at this;omega
  | succ n =>
  obtain⟨t0,ts,rfl⟩:∃ t r,ts=t::r:=by
   cases ts with
   | nil=>simp [isS] at h
   | cons t r=>exact⟨t,r,rfl⟩
  simp only [varsL,h,bindA,dropS] at hk
  conv=>whnf
  refine⟨_,_,_,_,_,_,_,rfl,rfl,?_⟩
  conv=>whnf
  have hf:Fin d 4 ts ns:=⟨hf.1,by have:=hf.2;simp only [List.length_cons] at this;omega⟩
  refine⟨_,_,_,_,_,_,rfl,rfl,hk.step (ident_le _ _) (fun t ts2 ns2 mo2 hl hk=>?_) (fun a er hb=>by ((conv=>whnf);exact hp _ _ rfl hb))⟩
  have hf:=hf.st hl
  have hl1:=hl.2
  conv=>whnf
  refine⟨d,_,_,_,_,_,_,_,_,_,rfl,rfl,hf.fine,hk.step (typed_le _ _ _ _ _) (fun x ts3 ns3 mo3 hl hk=>?_) (fun a er hb=>by ((conv=>whnf);exact hp _ _ rfl hb))⟩
  have hf:=hf.st hl
  have hl2:=hl.2
  conv=>whnf
  refine⟨⟨rfl,rfl,rfl,allLt_ok ⟨trivial,rfl⟩⟩,?_⟩
  conv=>whnf
  refine⟨⟨rfl,rfl,rfl,rfl,?_,?_⟩,?_⟩
  ·show (l.length+1)*8≤140737488355328
   omega
  ·show l.length+1≤9223372036854775807
   omega
  conv=>whnf
  refine⟨_,_,_,_,_,_,_,rfl,rfl,hk.step (want_le _ _ _) (fun _ ts4 ns4 mo4 hl hk=>?_) (fun a er hb=>by ((conv=>whnf);exact hp _ _ rfl hb))⟩
  have hf:=hf.st hl
  have hl3:=hl.2
  conv=>whnf
  simp only [List.length_cons,List.tail_cons] at hl1 hl2 hl3 hn hln
  refine hle _ _ (Le.cutEnv 3 rfl rfl ⟨rfl,fun _ _=>rfl,?_,trivial⟩ ?_ ?_) (ih ⟨ts4,ns4,mo4,l++[x],n⟩ (by simp only;omega) ⟨?_,?_,?_,hf.lo (by omega),hk⟩)
  ·exact kid_cl l x _ 3 rfl
  ·exact⟨AV.le_refl _,AV.le_refl _,AV.le_of_eq (show AV.slr 2 0 0 (l.length+1)=AV.slr 2 0 0 (l++[x]).length by simp),trivial⟩
  ·exact⟨ABlk.le_refl _,ABlk.le_refl _,kidA_snoc l x _ rfl,trivial⟩
  ·simp only;omega
  ·simp only;omega
  ·simp only [List.length_append,List.length_cons,List.length_nil];omega
 ·have h:isS [118,97,114] ts=false:=h
  have hk:k (.ret (kidV l)) (encP e ts ns op mo++X):=by
   cases n with
   | zero=>exact hk
   | succ n=>simp only [varsL,h] at hk;exact hk
  conv=>whnf
  exact hr _ _ _ _ _ _ _ _ (Wk1.freeze (r:=2) rfl (kidF l) (fun _ _=>rfl)) rfl rfl hk
def g13:AG:=gput 131 cVars g12
theorem g13_ok:GOk Tryz.prog g13:=gput_ok vars_ok g12_ok
def cBody:AC:=fun args K k=>∃ d:Nat,∃ e ts ns mo op X,args=[pp,.p (.bool true)]∧K=encP e ts ns op mo++X∧op=40 - (d:Int)∧Fine d ts ns ∧
 After e (bodyS e d ⟨ts,ns,mo⟩) (fun a=>.tup [kidV a.1,intV a.2]) op X k
theorem body_ok:COk 190 cBody:=by
 rintro args K k ⟨d,e,ts,ns,mo,op,X,rfl,rfl,ho,hf,hk⟩
 refine frameP g13_ok 19 rfl fun Q hr hp=>?_
 have hk:=hk.ak
 have hf:=hf.fin
 unfold bodyS at hk
 simp only at hk
 conv=>whnf
 refine⟨by simp<;>omega,?_⟩
 conv=>whnf
 rw [enc_hd]
 conv=>whnf
 cases hw:isS [123] ts with
 | false =>
  have hb:=hk.within_no hw
  refine⟨_,_,_,_,_,_,_,rfl,rfl,?_⟩
  conv=>whnf
  refine two_false hw ?_
  conv=>whnf
  refine⟨_,_,_,_,_,_,_,rfl,rfl,⟨fun a ts' ns' mo' h=>by simp [wantS,hw] at h,fun a er h=>?_⟩⟩
  simp only [wantS,hw,R.bad.injEq] at h
  obtain⟨rfl,rfl⟩:=h
  ((conv=>whnf);exact hp _ _ rfl hb)
 | true =>
  refine⟨_,_,_,_,_,_,_,rfl,rfl,?_⟩
  conv=>whnf
  refine two_true hw ?_
  conv=>whnf
  cases d with
  | zero =>
   have hb:=hk.within_deep hw
   refine two_true (by simp [ho]) ?_
   conv=>whnf
   refine⟨_,_,_,_,_,_,_,rfl,rfl,?_⟩
   ((conv=>whnf);exact hp _ _ rfl hb)
  | succ d =>
  refine two_false (by simp [ho];omega) ?_
  conv=>whnf
  refine⟨_,_,_,_,_,_,_,rfl,rfl,⟨fun a ts' ns' mo' h=>?_,fun a er h=>by simp [wantS,hw] at h⟩⟩
  simp only [wantS,hw,dropS,R.ok.injEq,PS.mk.injEq] at h
  obtain⟨-,rfl,rfl,rfl⟩:=h
  have hd2:d<1000:=by have:=hf.1;omega
  have hk:=hk.within hw (by simp)
  rw [← in_mo ho hd2] at hk
  have hf:=hf.opn hw
  conv=>whnf
  simp only [bindA] at hk
  refine⟨d,_,_,_,_,_,_,_,rfl,rfl,hf.fine,hk.step (vars_le _ _ _) (fun vs ts2 ns2 mo2 hl hk=>?_) (fun a er hb=>by ((conv=>whnf);exact hp _ _ rfl hb))⟩
  have hf:=hf.st hl
  have hl0:=hl.2
  have hd40:d<41:=by have:=hf.d;omega
  simp only at hl0
  conv=>whnf
  refine loop_nil (ι:=LC) 3 1 (fun i=>pvs (kidF [] i)) (fun i=>⟨[(1,.ptr 2 0 1 0 0),(3,.ptr 6 0 1 0 0)],
    encP e i.ts i.ns (IntKind.i64.wrap (op+1)) i.mo++[.box 101 [pp],.box 4 [.p (.bool true)],.box 61 [.p (.int .i64 6),.p (.int .i64 0),.p (.int .i64 (Ru.hd e ts)),.p (.str []),.p .nils],.box 40 [kidV vs],.box 40 [.slr 7 0 0 i.l.length],kidA i.l]⟩)
   (fun i=>i.ts.length<i.n∧i.n≤900001∧i.l.length+i.ts.length≤900000∧Fin d 3 i.ts i.ns∧AK ((stmtsL (stmtS e d) i.n i.l ⟨i.ts,i.ns,i.mo⟩).bind fun l s=>(wantS e [125] s).bind fun _ s=>(putS ⟨6,0,Ru.hd e ts,[],l⟩ s).bind fun b s=>.ok (vs,b) s)
    (fun a s=>k (.ret (.tup [kidV a.1,intV a.2])) (encP e s.ts s.ns op s.mo++X)) (fun a er=>k (.pan (wrongV a er)) (deads 2++X)))
   (fun i=>i.n) ⟨ts2,ns2,mo2,[],ts2.length+1⟩
   (encP e ts2 ns2 (IntKind.i64.wrap (op+1)) mo2++[.box 101 [pp],.box 4 [.p (.bool true)],.box 61 [.p (.int .i64 6),.p (.int .i64 0),.p (.int .i64 (Ru.hd e ts)),.p (.str []),.p .nils],.box 40 [kidV vs],.box 40 [.slr 7 0 0 0]])
   rfl ⟨.inl (AV.le_refl _),.inl (AV.le_refl _),trivial⟩
   ?_ rfl
   ⟨Nat.lt_succ_self _,?_,?_,hf.lo (by omega),hk⟩ ?_
  ·exact⟨.inl (ABlk.le_refl _),.inl (ABlk.le_refl _),.inl (ABlk.le_refl _),.inl (ABlk.le_refl _),.inl (ABlk.le_refl _),.inl (ABlk.le_refl _),.inr ⟨_,_,_,rfl,rfl,.inr ⟨rfl,rfl⟩,trivial⟩,trivial⟩
  ·have:=hf.s;show ts2.length+1≤900001;omega
  ·have:=hf.s;show 0+ts2.length≤900000;omega
  clear hk hf hl0 hl
  rintro Y hle ⟨ts,ns,mo,l,n⟩ ⟨hn,hn2,hln,hf,hk⟩ ih
  simp only at hn hn2 hln hf hk
  cases n with
  | zero=>omega
  | succ n =>
  conv=>whnf
  refine⟨_,_,_,_,_,_,_,rfl,rfl,?_⟩
  conv=>whnf
  refine two_intro (fun h=>?_) (fun h=>?_)
  ·have h:isS [125] ts=false:=nt h
   simp only [stmtsL,h,bindA] at hk
   conv=>whnf
   refine⟨d,_,_,_,_,_,_,rfl,rfl,in_op ho hd2,by omega,hf.fine,hk.step (stmt_le _ _ _) (fun x ts2 ns2 mo2 hl hk=>?_) (fun a er hb=>by ((conv=>whnf);exact hp _ _ rfl hb))⟩
   have hf:=hf.st hl
   conv=>whnf
   refine⟨by conv=>whnf,?_⟩
   conv=>whnf
   refine⟨by conv=>whnf,?_⟩
   conv=>whnf
   refine⟨⟨rfl,rfl,rfl,allLt_ok ⟨trivial,rfl⟩⟩,?_⟩
   conv=>whnf
   refine⟨⟨rfl,rfl,rfl,rfl,?_,?_⟩,?_⟩
   ·show (l.length+1)*8≤140737488355328
    omega
   ·show l.length+1≤9223372036854775807
    omega
   conv=>whnf
   have hl2:=hl.2
   simp only at hl2
   refine hle _ _ (Le.cutEnv 8 rfl rfl ⟨rfl,fun _ _=>rfl,rfl,rfl,rfl,rfl,rfl,?_,trivial⟩ ?_ ?_) (ih ⟨ts2,ns2,mo2,l++[x],n⟩ (by simp only;omega) ⟨?_,?_,?_,hf.lo (by omega),hk⟩)
   ·exact kid_cl l x _ 8 rfl
   ·exact⟨AV.le_refl _,AV.le_refl _,trivial⟩
   ·exact⟨ABlk.le_refl _,ABlk.le_refl _,ABlk.le_refl _,ABlk.le_refl _,ABlk.le_refl _,ABlk.le_refl _,ABlk.le_of_eq (by simp),kidA_snoc l x _ rfl,trivial⟩
   ·simp only;omega
   ·simp only;omega
   ·simp only [List.length_append,List.length_cons,List.length_nil];omega
  ·have h:isS [125] ts=true:=nf h
   simp only [stmtsL,h,bindO] at hk
   conv=>whnf
   refine⟨_,_,_,_,_,_,_,rfl,rfl,hk.step (want_le _ _ _) (fun _ ts ns mo hl hk=>?_) (fun a er hb=>by ((conv=>whnf);exact hp _ _ rfl hb))⟩
   have hf:=hf.st hl
   conv=>whnf
   refine⟨l,_,_,_,_,_,_,_,_,_,_,_,rfl,rfl,PutK.slr hf.sz rfl rfl rfl (fun _ _=>rfl) ?_⟩
   conv=>whnf
   refine⟨by conv=>whnf,?_⟩
   conv=>whnf
   rw [out_op ho hd2]
   exact hr _ _ _ _ _ _ rfl rfl hk
def g14:AG:=gput 190 cBody g13
theorem g14_ok:GOk Tryz.prog g14:=gput_ok body_ok g13_ok
def cProc:AC:=fun args K k=>∃ d:Nat,∃ e ts ns mo op X,args=[pp]∧K=encP e ts ns op mo++X∧op=40 - (d:Int)∧Fine d ts ns ∧
 After e (procS e d ⟨ts,ns,mo⟩) intV op X k
theorem kid_app (l vs:List Int) (b:Int) (f:Nat→List AV) (hf:f 0=[intV b]):∀ i,i<l.length+vs.length+1 →
  catF (l.length+vs.length) (catF l.length (fun i=>pvs (kidF l i)) (fun i=>pvs (kidF vs i))) f i=[intV ((l++vs++[b]).getD i 0)]:=fun i hi=>by
 by_cases h:i<l.length+vs.length
 ·rw [catF_lt h]
  by_cases h2:i<l.length
  ·rw [catF_lt h2]
   have:(l++vs++[b])[i]?=l[i]?:=by rw [List.append_assoc,List.getElem?_append_left h2]
   simp only [kidF,List.getD_eq_getElem?_getD,this,pvs,intV]
  ·rw [catF_ge (by omega)]
   have:(l++vs++[b])[i]?=vs[i - l.length]?:=by
    rw [List.getElem?_append_left (by simp;omega),List.getElem?_append_right (by omega)]
   simp only [kidF,List.getD_eq_getElem?_getD,this,pvs,intV]
 ·obtain rfl:i=l.length+vs.length:=by omega
  rw [catF_ge (Nat.le_refl _),Nat.sub_self,hf]
  have:(l++vs++[b])[l.length+vs.length]?=some b:=by
   rw [List.getElem?_append_right (by simp)];simp
  simp only [List.getD_eq_getElem?_getD,this,Option.getD_some]
def cIsN:AC:=fun args K k=>cIs args K k∨cIs args K (fun ao K1=>∃ ty sz g K2,nswK K1.length K1 K2∧k ao (K2++[.arr ty sz 0 0 g]))
theorem isN_ok:COk 180 cIsN:=by
 rintro args K k (h|h)
 ·exact is_ok _ _ _ h
 ·exact (is_ok _ _ _ h).nil
theorem proc_ok:COk 132 cProc:=by
 rintro args K k ⟨d,e,ts0,ns,mo,op,X,rfl,rfl,ho,hf,hk⟩
 refine frameP (G:=gput 180 cIsN g14) (gput_ok isN_ok g14_ok) 19 rfl fun Q hr hp=>?_
 have hk:=hk.ak
 have hf:=hf.fin
 have hd0:=hf.d
 unfold procS at hk
 simp only at hk
 conv=>whnf
 refine⟨by simp<;>omega,?_⟩
 conv=>whnf
 rw [enc_hd]
 conv=>whnf
 refine⟨_,_,_,_,_,_,_,rfl,rfl,hk.step (want_le _ _ _) (fun _ ts2 ns2 mo2 hl hk=>?_) (fun a er hb=>by ((conv=>whnf);exact hp _ _ rfl hb))⟩
 have hf:=hf.st hl
 conv=>whnf
 refine⟨_,_,_,_,_,_,rfl,rfl,hk.step (ident_le _ _) (fun t ts ns mo hl hk=>?_) (fun a er hb=>by ((conv=>whnf);exact hp _ _ rfl hb))⟩
 have hf:=hf.st hl
 conv=>whnf
 refine .inl ?_
 cases hw:isS [40] ts with
 | false =>
  have hb:=hk.within_no hw
  refine⟨_,_,_,_,_,_,_,rfl,rfl,?_⟩
  conv=>whnf
  refine two_false hw ?_
  conv=>whnf
  refine⟨_,_,_,_,_,_,_,rfl,rfl,⟨fun a ts' ns' mo' h=>by simp [wantS,hw] at h,fun a er h=>?_⟩⟩
  simp only [wantS,hw,R.bad.injEq] at h
  obtain⟨rfl,rfl⟩:=h
  ((conv=>whnf);exact hp _ _ rfl hb)
 | true =>
  refine⟨_,_,_,_,_,_,_,rfl,rfl,?_⟩
  conv=>whnf
  refine two_true hw ?_
  conv=>whnf
  cases d with
  | zero =>
   have hb:=hk.within_deep hw
   refine two_true (by simp [ho]) ?_
   conv=>whnf
   refine⟨_,_,_,_,_,_,_,rfl,rfl,?_⟩
   ((conv=>whnf);exact hp _ _ rfl hb)
  | succ d =>
  refine two_false (by simp [ho];omega) ?_
  conv=>whnf
  refine⟨_,_,_,_,_,_,_,rfl,rfl,⟨fun a ts' ns' mo' h=>?_,fun a er h=>by simp [wantS,hw] at h⟩⟩
  simp only [wantS,hw,dropS,R.ok.injEq,PS.mk.injEq] at h
  obtain⟨-,rfl,rfl,rfl⟩:=h
  have hd2:d<1000:=by have:=hf.1;omega
  have hk:=hk.within hw (by simp)
  rw [← in_mo ho hd2] at hk
  have hf:=hf.opn hw
  conv=>whnf
  refine .inr ⟨_,_,_,_,_,_,_,rfl,rfl,3,1,fun i=>pvs (kidF [] i),encP e ts.tail ns (IntKind.i64.wrap (op+1)) (if IntKind.i64.wrap (op+1)>mo then IntKind.i64.wrap (op+1) else mo)++[.box 101 [pp],.box 61 [.p (.int .i64 3),.p (.int .i64 0),.p (.int .i64 (hd e ts0)),.p (.str t.tx),.p .nils],.box 40 [.slr 5 0 0 0]],?_,?_⟩
  ·exact⟨.inl (ABlk.le_refl _),.inl (ABlk.le_refl _),.inl (ABlk.le_refl _),.inl (ABlk.le_refl _),.inr ⟨_,_,_,rfl,rfl,.inr ⟨rfl,rfl⟩,trivial⟩,trivial⟩
  conv=>whnf
  refine two_intro (fun h2=>?_) (fun h2=>?_)
  ·have h2:isS [41] ts.tail=true:=h2
   simp only [listS,h2,bindO] at hk
   conv=>whnf
   refine⟨_,_,_,_,_,_,_,rfl,rfl,hk.step (want_le _ _ _) (fun _ ts ns mo hl hk=>?_) (fun a er hb=>by ((conv=>whnf);exact hp _ _ rfl hb))⟩
   have hf:=hf.st hl
   conv=>whnf
   have hln0:([]:List Int).length≤900000:=by simp
   refine⟨_,_,_,_,_,_,rfl,rfl,?_⟩
   conv=>whnf
   refine two_intro (fun h3=>?_) (fun h3=>?_)
   ·obtain⟨t2,ts,rfl⟩:∃ t r,ts=t::r:=by
     cases ts with
     | nil=>simp [typesS,isS] at h3
     | cons t r=>exact⟨t,r,rfl⟩
    have h3:decide (typesS (t2::ts)>0)=true:=h3
    simp only [h3,dropS] at hk
    conv=>whnf
    refine⟨_,_,_,_,_,_,_,rfl,rfl,?_⟩
    conv=>whnf
    rw [out_op ho hd2]
    have hf:Fin d 7 ts ns:=⟨hf.1,by have:=hf.2;simp only [List.length_cons] at this;omega⟩
    refine⟨d+1,_,_,_,_,_,_,rfl,rfl,ho,⟨hd0,by have:=hf.2;omega⟩,hk.stepv (p:=fun p s=>Lw _ 3 1 s∧p.1.length≤_) (fun p s h=>⟨body_le _ _ _ _ _ h,body_len _ _ _ _ _ h⟩) (fun p ts ns mo hl hk=>?_) (fun a er hb=>by ((conv=>whnf);exact hp _ _ rfl hb))⟩
    have hpl:=hl.2
    have hl:=hl.1
    have hpb:p.1.length≤900000:=by have:=hf.2;simp only [List.tail_cons] at hpl;omega
    have hf:=hf.st hl
    conv=>whnf
    have hlen:(([]:List Int)).length≤900000:=hln0
    refine⟨?_,?_⟩
    ·conv=>whnf
     refine⟨⟨rfl,fun _ _=>rfl⟩,?_⟩
     conv=>whnf
     refine⟨⟨rfl,rfl,rfl,rfl,?_,?_⟩,?_⟩
     ·show ((([]:List Int)).length+p.1.length)*8≤140737488355328
      omega
     ·show (([]:List Int)).length+p.1.length≤9223372036854775807
      omega
     conv=>whnf
     repeat ((refine And.intro ?_ ?_);(focus ((conv=>whnf);done));conv=>whnf)
     refine⟨⟨rfl,rfl,rfl,allLt_ok ⟨trivial,rfl⟩⟩,?_⟩
     conv=>whnf
     refine⟨⟨rfl,rfl,rfl,rfl,?_,?_⟩,?_⟩
     ·show ((([]:List Int)).length+p.1.length+1)*8≤140737488355328
      omega
     ·show (([]:List Int)).length+p.1.length+1≤9223372036854775807
      omega
     conv=>whnf
     repeat ((refine And.intro ?_ ?_);(focus ((conv=>whnf);done));conv=>whnf)
     refine⟨([]:List Int)++p.1++[p.2],_,_,_,_,_,_,_,_,_,_,_,rfl,rfl,PutK.slr hf.sz rfl rfl ?_ ?_ ?_⟩
     ·show (([]:List Int)++p.1++[p.2]).length=(([]:List Int)).length+p.1.length+1
      simp only [List.length_append,List.length_cons,List.length_nil]
     ·exact kid_app (([]:List Int)) p.1 p.2 _ rfl
     conv=>whnf
     repeat ((refine And.intro ?_ ?_);(focus ((conv=>whnf);done));conv=>whnf)
     exact hr _ _ _ _ _ _ rfl rfl hk
    ·conv=>whnf
     repeat ((refine And.intro ?_ ?_);(focus ((conv=>whnf);done));conv=>whnf)
     refine⟨⟨rfl,fun _ _=>rfl⟩,?_⟩
     conv=>whnf
     refine⟨⟨rfl,rfl,rfl,rfl,?_,?_⟩,?_⟩
     ·show ((([]:List Int)).length+p.1.length)*8≤140737488355328
      omega
     ·show (([]:List Int)).length+p.1.length≤9223372036854775807
      omega
     conv=>whnf
     repeat ((refine And.intro ?_ ?_);(focus ((conv=>whnf);done));conv=>whnf)
     refine⟨⟨rfl,rfl,rfl,allLt_ok ⟨trivial,rfl⟩⟩,?_⟩
     conv=>whnf
     refine⟨⟨rfl,rfl,rfl,rfl,?_,?_⟩,?_⟩
     ·show ((([]:List Int)).length+p.1.length+1)*8≤140737488355328
      omega
     ·show (([]:List Int)).length+p.1.length+1≤9223372036854775807
      omega
     conv=>whnf
     repeat ((refine And.intro ?_ ?_);(focus ((conv=>whnf);done));conv=>whnf)
     refine⟨([]:List Int)++p.1++[p.2],_,_,_,_,_,_,_,_,_,_,_,rfl,rfl,PutK.slr hf.sz rfl rfl ?_ ?_ ?_⟩
     ·show (([]:List Int)++p.1++[p.2]).length=(([]:List Int)).length+p.1.length+1
      simp only [List.length_append,List.length_cons,List.length_nil]
     ·exact kid_app (([]:List Int)) p.1 p.2 _ rfl
     conv=>whnf
     repeat ((refine And.intro ?_ ?_);(focus ((conv=>whnf);done));conv=>whnf)
     exact hr _ _ _ _ _ _ rfl rfl hk
   ·have h3:decide (typesS ts>0)=false:=h3
    simp only [h3] at hk
    conv=>whnf
    rw [out_op ho hd2]
    have hf:Fin d 7 ts ns:=hf.lo (by omega)
    refine⟨d+1,_,_,_,_,_,_,rfl,rfl,ho,⟨hd0,by have:=hf.2;omega⟩,hk.stepv (p:=fun p s=>Lw _ 3 1 s∧p.1.length≤_) (fun p s h=>⟨body_le _ _ _ _ _ h,body_len _ _ _ _ _ h⟩) (fun p ts ns mo hl hk=>?_) (fun a er hb=>by ((conv=>whnf);exact hp _ _ rfl hb))⟩
    have hpl:=hl.2
    have hl:=hl.1
    have hpb:p.1.length≤900000:=by have:=hf.2;simp only [List.tail_cons] at hpl;omega
    have hf:=hf.st hl
    conv=>whnf
    have hlen:(([]:List Int)).length≤900000:=hln0
    refine⟨?_,?_⟩
    ·conv=>whnf
     refine⟨⟨rfl,fun _ _=>rfl⟩,?_⟩
     conv=>whnf
     refine⟨⟨rfl,rfl,rfl,rfl,?_,?_⟩,?_⟩
     ·show ((([]:List Int)).length+p.1.length)*8≤140737488355328
      omega
     ·show (([]:List Int)).length+p.1.length≤9223372036854775807
      omega
     conv=>whnf
     repeat ((refine And.intro ?_ ?_);(focus ((conv=>whnf);done));conv=>whnf)
     refine⟨⟨rfl,rfl,rfl,allLt_ok ⟨trivial,rfl⟩⟩,?_⟩
     conv=>whnf
     refine⟨⟨rfl,rfl,rfl,rfl,?_,?_⟩,?_⟩
     ·show ((([]:List Int)).length+p.1.length+1)*8≤140737488355328
      omega
     ·show (([]:List Int)).length+p.1.length+1≤9223372036854775807
      omega
     conv=>whnf
     repeat ((refine And.intro ?_ ?_);(focus ((conv=>whnf);done));conv=>whnf)
     refine⟨([]:List Int)++p.1++[p.2],_,_,_,_,_,_,_,_,_,_,_,rfl,rfl,PutK.slr hf.sz rfl rfl ?_ ?_ ?_⟩
     ·show (([]:List Int)++p.1++[p.2]).length=(([]:List Int)).length+p.1.length+1
      simp only [List.length_append,List.length_cons,List.length_nil]
     ·exact kid_app (([]:List Int)) p.1 p.2 _ rfl
     conv=>whnf
     repeat ((refine And.intro ?_ ?_);(focus ((conv=>whnf);done));conv=>whnf)
     exact hr _ _ _ _ _ _ rfl rfl hk
    ·conv=>whnf
     repeat ((refine And.intro ?_ ?_);(focus ((conv=>whnf);done));conv=>whnf)
     refine⟨⟨rfl,fun _ _=>rfl⟩,?_⟩
     conv=>whnf
     refine⟨⟨rfl,rfl,rfl,rfl,?_,?_⟩,?_⟩
     ·show ((([]:List Int)).length+p.1.length)*8≤140737488355328
      omega
     ·show (([]:List Int)).length+p.1.length≤9223372036854775807
      omega
     conv=>whnf
     repeat ((refine And.intro ?_ ?_);(focus ((conv=>whnf);done));conv=>whnf)
     refine⟨⟨rfl,rfl,rfl,allLt_ok ⟨trivial,rfl⟩⟩,?_⟩
     conv=>whnf
     refine⟨⟨rfl,rfl,rfl,rfl,?_,?_⟩,?_⟩
     ·show ((([]:List Int)).length+p.1.length+1)*8≤140737488355328
      omega
     ·show (([]:List Int)).length+p.1.length+1≤9223372036854775807
      omega
     conv=>whnf
     repeat ((refine And.intro ?_ ?_);(focus ((conv=>whnf);done));conv=>whnf)
     refine⟨([]:List Int)++p.1++[p.2],_,_,_,_,_,_,_,_,_,_,_,rfl,rfl,PutK.slr hf.sz rfl rfl ?_ ?_ ?_⟩
     ·show (([]:List Int)++p.1++[p.2]).length=(([]:List Int)).length+p.1.length+1
      simp only [List.length_append,List.length_cons,List.length_nil]
     ·exact kid_app (([]:List Int)) p.1 p.2 _ rfl
     conv=>whnf
     repeat ((refine And.intro ?_ ?_);(focus ((conv=>whnf);done));conv=>whnf)
     exact hr _ _ _ _ _ _ rfl rfl hk
  ·have h2:isS [41] ts.tail=false:=h2
   simp only [listS,h2,oneS,paramS,bindA,bindO] at hk
   conv=>whnf
   refine⟨_,_,_,_,_,_,rfl,rfl,hk.step (ident_le _ _) (fun t1 ts2 ns2 mo2 hl hk=>?_) (fun a er hb=>by ((conv=>whnf);exact hp _ _ rfl hb))⟩
   have hf:=hf.st hl
   conv=>whnf
   refine⟨d,_,_,_,_,_,_,_,_,_,rfl,rfl,hf.fine,hk.step (typed_le _ _ _ _ _) (fun x ts3 ns3 mo3 hl hk=>?_) (fun a er hb=>by ((conv=>whnf);exact hp _ _ rfl hb))⟩
   have hf:=hf.st hl
   conv=>whnf
   repeat ((refine And.intro ?_ ?_);(focus ((conv=>whnf);done));conv=>whnf)
   refine⟨⟨rfl,rfl,rfl,allLt_ok ⟨trivial,rfl⟩⟩,?_⟩
   conv=>whnf
   refine⟨⟨rfl,rfl,rfl,rfl,by decide,by decide⟩,?_⟩
   conv=>whnf
   refine loop_cut (ι:=LC) 6 (fun i=>⟨[(0,pp),(1,.fn 188 [] [.ptr 2 0 1 0 0,.ptr 4 0 1 0 0])],
     encP e i.ts i.ns (IntKind.i64.wrap (op+1)) i.mo++[.box 101 [pp],.box 61 [.p (.int .i64 3),.p (.int .i64 0),.p (.int .i64 (hd e ts0)),.p (.str t.tx),.p .nils],.box 40 [.slr 5 0 0 i.l.length],kidA i.l]⟩)
    (fun i=>i.ts.length≤i.n∧i.n≤900000∧i.l.length+i.ts.length≤900000∧Fin d 7 i.ts i.ns∧AK ((commaL (oneS (paramS e)) i.n i.l ⟨i.ts,i.ns,i.mo⟩).bind fun l s=>(wantS e [41] s).bind fun _ s=>(bodyS e (d+1)
       (match decide (typesS s.ts>0) with
        | true=>dropS s
        | false=>s)).bind fun p s_1=>putS ⟨3,typesS s.ts,hd e ts0,t.tx,l++p.1++[p.2]⟩ s_1)
     (fun a s=>k (.ret (intV a)) (encP e s.ts s.ns op s.mo++X)) (fun a er=>k (.pan (wrongV a er)) (deads 2++X)))
    (fun i=>i.n) ⟨ts3,ns3,mo3,[x],ts3.length⟩ rfl rfl ⟨AV.le_refl _,AV.le_refl _,trivial⟩ ⟨rfl,fun _ _=>rfl,rfl,rfl,rfl,?_,trivial⟩ ⟨ABlk.le_refl _,ABlk.le_refl _,ABlk.le_refl _,ABlk.le_refl _,ABlk.le_refl _,?_,trivial⟩
    ⟨Nat.le_refl _,?_,?_,hf.lo (by omega),hk⟩ ?_
   ·exact kid_cl [] x _ 6 rfl
   ·exact kidA_snoc [] x _ rfl
   ·have:=hf.s;show ts3.length≤900000;omega
   ·have:=hf.s;show 1+ts3.length≤900000;omega
   clear hk hf hl
   rintro Y hle ⟨ts,ns,mo,l,n⟩ ⟨hn,hn2,hln,hf,hk⟩ ih
   simp only at hn hn2 hln hf hk
   conv=>whnf
   refine⟨_,_,_,_,_,_,_,rfl,rfl,⟨fun h=>?_,fun h=>?_⟩⟩
   ·cases n with
    | zero=>have:=isS_pos h;simp only at this;omega
    | succ n =>
    have h:isS [44] ts=true:=h
    simp only [commaL,h,oneS,paramS,bindA,bindO,dropS] at hk
    have hf:=hf.sk h
    have hpos:=isS_pos h
    conv=>whnf
    refine⟨_,_,_,_,_,_,rfl,rfl,hk.step (ident_le _ _) (fun t2 ts2 ns2 mo2 hl hk=>?_) (fun a er hb=>by ((conv=>whnf);exact hp _ _ rfl hb))⟩
    have hf:=hf.st hl
    have hl2:=hl.2
    conv=>whnf
    refine⟨d,_,_,_,_,_,_,_,_,_,rfl,rfl,hf.fine,hk.step (typed_le _ _ _ _ _) (fun x ts3 ns3 mo3 hl hk=>?_) (fun a er hb=>by ((conv=>whnf);exact hp _ _ rfl hb))⟩
    have hf:=hf.st hl
    have hl3:=hl.2
    conv=>whnf
    repeat ((refine And.intro ?_ ?_);(focus ((conv=>whnf);done));conv=>whnf)
    refine⟨⟨rfl,rfl,rfl,allLt_ok ⟨trivial,rfl⟩⟩,?_⟩
    conv=>whnf
    refine⟨⟨rfl,rfl,rfl,rfl,?_,?_⟩,?_⟩
    ·show (l.length+1)*8≤140737488355328
     omega
    ·show l.length+1≤9223372036854775807
     omega
    conv=>whnf
    simp only [List.length_tail] at hl2 hl3
    refine hle _ _ (Le.cutEnv 6 rfl rfl ⟨rfl,fun _ _=>rfl,rfl,rfl,rfl,?_,trivial⟩ ?_ ?_) (ih ⟨ts3,ns3,mo3,l++[x],n⟩ (by simp only;omega) ⟨?_,?_,?_,hf.lo (by omega),hk⟩)
    ·exact kid_cl l x _ 6 rfl
    ·exact⟨AV.le_refl _,AV.le_refl _,trivial⟩
    ·exact⟨ABlk.le_refl _,ABlk.le_refl _,ABlk.le_refl _,ABlk.le_refl _,ABlk.le_of_eq (by simp),kidA_snoc l x _ rfl,trivial⟩
    ·simp only;omega
    ·simp only;omega
    ·simp only [List.length_append,List.length_cons,List.length_nil];omega
   ·have h:isS [44] ts=false:=h
    replace hk:AK ((wantS e [41] ⟨ts,ns,mo⟩).bind fun _ s=>(bodyS e (d+1)
       (match decide (typesS s.ts>0) with
        | true=>dropS s
        | false=>s)).bind fun p s_1=>putS ⟨3,typesS s.ts,hd e ts0,t.tx,l++p.1++[p.2]⟩ s_1)
     (fun a s=>k (.ret (intV a)) (encP e s.ts s.ns op s.mo++X)) (fun a er=>k (.pan (wrongV a er)) (deads 2++X)):=by
     cases n with
     | zero=>exact hk
     | succ n=>simp only [commaL,h,bindO] at hk;exact hk
    have hln0:l.length≤900000:=by omega
    conv=>whnf
    refine⟨_,_,_,_,_,_,_,rfl,rfl,hk.step (want_le _ _ _) (fun _ ts ns mo hl hk=>?_) (fun a er hb=>by ((conv=>whnf);exact hp _ _ rfl hb))⟩
    have hf:=hf.st hl
    conv=>whnf
    refine⟨_,_,_,_,_,_,rfl,rfl,?_⟩
    conv=>whnf
    refine two_intro (fun h3=>?_) (fun h3=>?_)
    ·obtain⟨t2,ts,rfl⟩:∃ t r,ts=t::r:=by
      cases ts with
      | nil=>simp [typesS,isS] at h3
      | cons t r=>exact⟨t,r,rfl⟩
     have h3:decide (typesS (t2::ts)>0)=true:=h3
     simp only [h3,dropS] at hk
     conv=>whnf
     refine⟨_,_,_,_,_,_,_,rfl,rfl,?_⟩
     conv=>whnf
     rw [out_op ho hd2]
     have hf:Fin d 7 ts ns:=⟨hf.1,by have:=hf.2;simp only [List.length_cons] at this;omega⟩
     refine⟨d+1,_,_,_,_,_,_,rfl,rfl,ho,⟨hd0,by have:=hf.2;omega⟩,hk.stepv (p:=fun p s=>Lw _ 3 1 s∧p.1.length≤_) (fun p s h=>⟨body_le _ _ _ _ _ h,body_len _ _ _ _ _ h⟩) (fun p ts ns mo hl hk=>?_) (fun a er hb=>by ((conv=>whnf);exact hp _ _ rfl hb))⟩
     have hpl:=hl.2
     have hl:=hl.1
     have hpb:p.1.length≤900000:=by have:=hf.2;simp only [List.tail_cons] at hpl;omega
     have hf:=hf.st hl
     conv=>whnf
     have hlen:(l).length≤900000:=hln0
     refine⟨?_,?_⟩
     ·conv=>whnf
      refine⟨⟨rfl,fun _ _=>rfl⟩,?_⟩
      conv=>whnf
      refine⟨⟨rfl,rfl,rfl,rfl,?_,?_⟩,?_⟩
      ·show ((l).length+p.1.length)*8≤140737488355328
       omega
      ·show (l).length+p.1.length≤9223372036854775807
       omega
      conv=>whnf
      repeat ((refine And.intro ?_ ?_);(focus ((conv=>whnf);done));conv=>whnf)
      refine⟨⟨rfl,rfl,rfl,allLt_ok ⟨trivial,rfl⟩⟩,?_⟩
      conv=>whnf
      refine⟨⟨rfl,rfl,rfl,rfl,?_,?_⟩,?_⟩
      ·show ((l).length+p.1.length+1)*8≤140737488355328
       omega
      ·show (l).length+p.1.length+1≤9223372036854775807
       omega
      conv=>whnf
      repeat ((refine And.intro ?_ ?_);(focus ((conv=>whnf);done));conv=>whnf)
      refine⟨l++p.1++[p.2],_,_,_,_,_,_,_,_,_,_,_,rfl,rfl,PutK.slr hf.sz rfl rfl ?_ ?_ ?_⟩
      ·show (l++p.1++[p.2]).length=(l).length+p.1.length+1
       simp only [List.length_append,List.length_cons,List.length_nil]
      ·exact kid_app (l) p.1 p.2 _ rfl
      conv=>whnf
      repeat ((refine And.intro ?_ ?_);(focus ((conv=>whnf);done));conv=>whnf)
      exact hr _ _ _ _ _ _ rfl rfl hk
     ·conv=>whnf
      repeat ((refine And.intro ?_ ?_);(focus ((conv=>whnf);done));conv=>whnf)
      refine⟨⟨rfl,fun _ _=>rfl⟩,?_⟩
      conv=>whnf
      refine⟨⟨rfl,rfl,rfl,rfl,?_,?_⟩,?_⟩
      ·show ((l).length+p.1.length)*8≤140737488355328
       omega
      ·show (l).length+p.1.length≤9223372036854775807
       omega
      conv=>whnf
      repeat ((refine And.intro ?_ ?_);(focus ((conv=>whnf);done));conv=>whnf)
      refine⟨⟨rfl,rfl,rfl,allLt_ok ⟨trivial,rfl⟩⟩,?_⟩
      conv=>whnf
      refine⟨⟨rfl,rfl,rfl,rfl,?_,?_⟩,?_⟩
      ·show ((l).length+p.1.length+1)*8≤140737488355328
       omega
      ·show (l).length+p.1.length+1≤9223372036854775807
       omega
      conv=>whnf
      repeat ((refine And.intro ?_ ?_);(focus ((conv=>whnf);done));conv=>whnf)
      refine⟨l++p.1++[p.2],_,_,_,_,_,_,_,_,_,_,_,rfl,rfl,PutK.slr hf.sz rfl rfl ?_ ?_ ?_⟩
      ·show (l++p.1++[p.2]).length=(l).length+p.1.length+1
       simp only [List.length_append,List.length_cons,List.length_nil]
      ·exact kid_app (l) p.1 p.2 _ rfl
      conv=>whnf
      repeat ((refine And.intro ?_ ?_);(focus ((conv=>whnf);done));conv=>whnf)
      exact hr _ _ _ _ _ _ rfl rfl hk
    ·have h3:decide (typesS ts>0)=false:=h3
     simp only [h3] at hk
     conv=>whnf
     rw [out_op ho hd2]
     have hf:Fin d 7 ts ns:=hf.lo (by omega)
     refine⟨d+1,_,_,_,_,_,_,rfl,rfl,ho,⟨hd0,by have:=hf.2;omega⟩,hk.stepv (p:=fun p s=>Lw _ 3 1 s∧p.1.length≤_) (fun p s h=>⟨body_le _ _ _ _ _ h,body_len _ _ _ _ _ h⟩) (fun p ts ns mo hl hk=>?_) (fun a er hb=>by ((conv=>whnf);exact hp _ _ rfl hb))⟩
     have hpl:=hl.2
     have hl:=hl.1
     have hpb:p.1.length≤900000:=by have:=hf.2;simp only [List.tail_cons] at hpl;omega
     have hf:=hf.st hl
     conv=>whnf
     have hlen:(l).length≤900000:=hln0
     refine⟨?_,?_⟩
     ·conv=>whnf
      refine⟨⟨rfl,fun _ _=>rfl⟩,?_⟩
      conv=>whnf
      refine⟨⟨rfl,rfl,rfl,rfl,?_,?_⟩,?_⟩
      ·show ((l).length+p.1.length)*8≤140737488355328
       omega
      ·show (l).length+p.1.length≤9223372036854775807
       omega
      conv=>whnf
      repeat ((refine And.intro ?_ ?_);(focus ((conv=>whnf);done));conv=>whnf)
      refine⟨⟨rfl,rfl,rfl,allLt_ok ⟨trivial,rfl⟩⟩,?_⟩
      conv=>whnf
      refine⟨⟨rfl,rfl,rfl,rfl,?_,?_⟩,?_⟩
      ·show ((l).length+p.1.length+1)*8≤140737488355328
       omega
      ·show (l).length+p.1.length+1≤9223372036854775807
       omega
      conv=>whnf
      repeat ((refine And.intro ?_ ?_);(focus ((conv=>whnf);done));conv=>whnf)
      refine⟨l++p.1++[p.2],_,_,_,_,_,_,_,_,_,_,_,rfl,rfl,PutK.slr hf.sz rfl rfl ?_ ?_ ?_⟩
      ·show (l++p.1++[p.2]).length=(l).length+p.1.length+1
       simp only [List.length_append,List.length_cons,List.length_nil]
      ·exact kid_app (l) p.1 p.2 _ rfl
      conv=>whnf
      repeat ((refine And.intro ?_ ?_);(focus ((conv=>whnf);done));conv=>whnf)
      exact hr _ _ _ _ _ _ rfl rfl hk
     ·conv=>whnf
      repeat ((refine And.intro ?_ ?_);(focus ((conv=>whnf);done));conv=>whnf)
      refine⟨⟨rfl,fun _ _=>rfl⟩,?_⟩
      conv=>whnf
      refine⟨⟨rfl,rfl,rfl,rfl,?_,?_⟩,?_⟩
      ·show ((l).length+p.1.length)*8≤140737488355328
       omega
      ·show (l).length+p.1.length≤9223372036854775807
       omega
      conv=>whnf
      repeat ((refine And.intro ?_ ?_);(focus ((conv=>whnf);done));conv=>whnf)
      refine⟨⟨rfl,rfl,rfl,allLt_ok ⟨trivial,rfl⟩⟩,?_⟩
      conv=>whnf
      refine⟨⟨rfl,rfl,rfl,rfl,?_,?_⟩,?_⟩
      ·show ((l).length+p.1.length+1)*8≤140737488355328
       omega
      ·show (l).length+p.1.length+1≤9223372036854775807
       omega
      conv=>whnf
      repeat ((refine And.intro ?_ ?_);(focus ((conv=>whnf);done));conv=>whnf)
      refine⟨l++p.1++[p.2],_,_,_,_,_,_,_,_,_,_,_,rfl,rfl,PutK.slr hf.sz rfl rfl ?_ ?_ ?_⟩
      ·show (l++p.1++[p.2]).length=(l).length+p.1.length+1
       simp only [List.length_append,List.length_cons,List.length_nil]
      ·exact kid_app (l) p.1 p.2 _ rfl
      conv=>whnf
      repeat ((refine And.intro ?_ ?_);(focus ((conv=>whnf);done));conv=>whnf)
      exact hr _ _ _ _ _ _ rfl rfl hk
def g15:AG:=gput 132 cProc g14
theorem g15_ok:GOk Tryz.prog g15:=gput_ok proc_ok g14_ok
def cVarsM:AC:=fun args K k=>∃ d:Nat,∃ e ts ns mo op kind,args=[pp,.p (.int .i64 kind)]∧K=encP e ts ns op mo∧Fine d ts ns ∧
 AK (varsS e kind ⟨ts,ns,mo⟩) (fun l s=>k (.ret (.slr 2 0 0 l.length)) (encP e s.ts s.ns op s.mo++[kidA l])) (fun a er=>∀ K',k (.pan (wrongV a er)) K')
theorem varsM_ok:COk 131 cVarsM:=by
 rintro args K k ⟨d,e,ts,ns,mo,op,kind,rfl,rfl,hf,hk⟩
 refine call_ok g12_ok 19 _ _ _ _ ?_
 have hf:=hf.fin
 unfold varsS at hk
 conv=>whnf
 refine loop_nil (ι:=LC) 3 1 (fun i=>pvs (kidF [] i)) (fun i=>⟨[(0,pp),(1,.p (.int .i64 kind)),(5,.slr 2 0 0 i.l.length)],encP e i.ts i.ns op i.mo++[kidA i.l]⟩)
   (fun i=>i.ts.length≤i.n∧i.n≤900001∧i.l.length+i.ts.length≤900000∧Fin d 0 i.ts i.ns∧AK (varsL e kind i.n i.l ⟨i.ts,i.ns,i.mo⟩)
    (fun l s=>k (.ret (.slr 2 0 0 l.length)) (encP e s.ts s.ns op s.mo++[kidA l])) (fun a er=>∀ K',k (.pan (wrongV a er)) K'))
   (fun i=>i.n) ⟨ts,ns,mo,[],ts.length⟩ (encP e ts ns op mo)
   rfl ⟨.inl (AV.le_refl _),.inl (AV.le_refl _),.inr ⟨rfl,rfl⟩,trivial⟩ (nswK.refl _ _) rfl
   ⟨Nat.le_refl _,?_,?_,hf,hk⟩ ?_
 ·have:=hf.s;show ts.length≤900001;omega
 ·have:=hf.s;show 0+ts.length≤900000;omega
 clear hk hf
 rintro Y hle ⟨ts,ns,mo,l,n⟩ ⟨hn,hn2,hln,hf,hk⟩ ih
 simp only at hn hn2 hln hf hk
 conv=>whnf
 refine⟨_,_,_,_,_,_,_,rfl,rfl,?_⟩
 conv=>whnf
 refine two_intro (fun h=>?_) (fun h=>?_)
 ·have h:isS [118,97,114] ts=true:=h
  cases n with
  | zero=>have:=isS_pos h;simp only at this;omega
  | succ n =>
  obtain⟨t0,ts,rfl⟩:∃ t r,ts=t::r:=by
   cases ts with
   | nil=>simp [isS] at h
   | cons t r=>exact⟨t,r,rfl⟩
  simp only [varsL,h,bindA,dropS] at hk
  conv=>whnf
  refine⟨_,_,_,_,_,_,_,rfl,rfl,?_⟩
  conv=>whnf
  have hf:Fin d 4 ts ns:=⟨hf.1,by have:=hf.2;simp only [List.length_cons] at this;omega⟩
  refine⟨_,_,_,_,_,_,rfl,rfl,hk.step (ident_le _ _) (fun t ts2 ns2 mo2 hl hk=>?_) (fun a er hb=>by (conv=>whnf);exact hb _)⟩
  have hf:=hf.st hl
  have hl1:=hl.2
  conv=>whnf
  refine⟨d,_,_,_,_,_,_,_,_,_,rfl,rfl,hf.fine,hk.step (typed_le _ _ _ _ _) (fun x ts3 ns3 mo3 hl hk=>?_) (fun a er hb=>by (conv=>whnf);exact hb _)⟩
  have hf:=hf.st hl
  have hl2:=hl.2
  conv=>whnf
  refine⟨⟨rfl,rfl,rfl,allLt_ok ⟨trivial,rfl⟩⟩,?_⟩
  conv=>whnf
  refine⟨⟨rfl,rfl,rfl,rfl,?_,?_⟩,?_⟩
  ·show (l.length+1)*8≤140737488355328
   omega
  ·show l.length+1≤9223372036854775807
   omega
  conv=>whnf
  refine⟨_,_,_,_,_,_,_,rfl,rfl,hk.step (want_le _ _ _) (fun _ ts4 ns4 mo4 hl hk=>?_) (fun a er hb=>by (conv=>whnf);exact hb _)⟩
  have hf:=hf.st hl
  have hl3:=hl.2
  conv=>whnf
  simp only [List.length_cons,List.tail_cons] at hl1 hl2 hl3 hn hln
  refine hle _ _ (Le.cutEnv 3 rfl rfl ⟨rfl,fun _ _=>rfl,?_,trivial⟩ ?_ ?_) (ih ⟨ts4,ns4,mo4,l++[x],n⟩ (by simp only;omega) ⟨?_,?_,?_,hf.lo (by omega),hk⟩)
  ·exact kid_cl l x _ 3 rfl
  ·exact⟨AV.le_refl _,AV.le_refl _,AV.le_of_eq (show AV.slr 2 0 0 (l.length+1)=AV.slr 2 0 0 (l++[x]).length by simp),trivial⟩
  ·exact⟨ABlk.le_refl _,ABlk.le_refl _,kidA_snoc l x _ rfl,trivial⟩
  ·simp only;omega
  ·simp only;omega
  ·simp only [List.length_append,List.length_cons,List.length_nil];omega
 ·have h:isS [118,97,114] ts=false:=h
  have hk:k (.ret (.slr 2 0 0 l.length)) (encP e ts ns op mo++[kidA l]):=by
   cases n with
   | zero=>exact hk
   | succ n=>simp only [varsL,h] at hk;exact hk
  conv=>whnf
  exact hk
def g16:AG:=gput 131 cVarsM g15
theorem g16_ok:GOk Tryz.prog g16:=gput_ok varsM_ok g15_ok
theorem AK.vstep {α β:Type} {r:R α} {f:α→PS→R β} {ok:β→PS→Prop} {bad:Int→Int→Prop} (h:AK (r.bind f) ok bad) {ok':α→PS→Prop} {bad':Int→Int→Prop} {p:α→PS→Prop} (hp:∀ a s,r=.ok a s→p a s)
  (h1:∀ a ts ns mo,p a ⟨ts,ns,mo⟩→AK (f a ⟨ts,ns,mo⟩) ok bad→ok' a ⟨ts,ns,mo⟩) (h2:∀ a er,bad a er→bad' a er):AK r ok' bad':=by
 cases r with
 | ok a s=>exact h1 _ _ _ _ (hp _ _ rfl) h
 | bad a er=>exact h2 _ _ h
def cProgram:AC:=fun args K k=>∃ e ts ns mo X,args=[pp]∧K=encP e ts ns 0 mo++X∧Fine 40 ts ns ∧
 After e (programS e ⟨ts,ns,mo⟩) intV 0 X k
theorem varsS_len (e kind:Int) (s:PS):∀ l s',varsS e kind s=.ok l s'→Lw s 0 0 s'∧l.length+s'.ts.length≤s.ts.length:=fun l s' h =>
 ⟨vars_le e kind s l s' h,by have:=varsL_len e kind _ _ _ _ _ h;simpa using this⟩
theorem program_ok:COk 84 cProgram:=by
 rintro args K k ⟨e,ts,ns,mo,X,rfl,rfl,hf,hk⟩
 refine frameP g16_ok 19 rfl fun Q hr hp=>?_
 have hk:=hk.ak
 have hf:=hf.fin
 unfold programS at hk
 conv=>whnf
 refine⟨40,_,_,_,_,_,_,rfl,rfl,hf.fine,hk.vstep (varsS_len _ _ _) (fun vs ts2 ns2 mo2 hl hk=>?_) (fun a er hb K'=>by (conv=>whnf);show fK K' _;rw [fK_eq];exact hp _ _ rfl hb)⟩
 have hln:=hl.2
 have hf0:=hf.s
 have hf:=hf.st hl.1
 simp only at hln
 conv=>whnf
 refine loop_by (ι:=LC) (fun i=>⟨[(0,pp),(3,.slr 2 0 0 i.l.length)],encP e i.ts i.ns 0 i.mo++[kidA i.l]⟩)
   (fun i=>i.ts.length≤i.n∧i.n≤900001∧i.l.length+i.ts.length≤900000∧Fin 40 0 i.ts i.ns∧AK ((procsL e 40 i.n i.l ⟨i.ts,i.ns,i.mo⟩).bind fun l s=>putS ⟨1,0,0,[],l⟩ s)
    (fun a s=>k (.ret (intV a)) (encP e s.ts s.ns 0 s.mo++X)) (fun a er=>k (.pan (wrongV a er)) (deads 2++X)))
   (fun i=>i.n) ⟨ts2,ns2,mo2,vs,ts2.length⟩ ⟨AV.le_refl _,AV.le_refl _,trivial⟩ (lesK.refl _)
   ⟨Nat.le_refl _,?_,?_,hf,hk⟩ ?_
 ·have:=hf.s;show ts2.length≤900001;omega
 ·show vs.length+ts2.length≤900000;omega
 clear hk hf hln hl hf0
 rintro Y hle ⟨ts,ns,mo,l,n⟩ ⟨hn,hn2,hln,hf,hk⟩ ih
 simp only at hn hn2 hln hf hk
 conv=>whnf
 refine⟨by simp<;>omega,?_⟩
 conv=>whnf
 rw [enc_hd]
 conv=>whnf
 refine two_intro (fun h=>?_) (fun h=>?_)
 ·have h:(hdK ts != 5)=true:=h
  cases n with
  | zero =>
   cases ts with
   | nil=>simp [hdK] at h
   | cons t r=>simp at hn
  | succ n =>
  obtain⟨t,r,rfl⟩:∃ t r,ts=t::r:=by
   cases ts with
   | nil=>simp [hdK] at h
   | cons t r=>exact⟨t,r,rfl⟩
  simp only [procsL,bindA] at hk
  conv=>whnf
  refine⟨40,_,_,_,_,_,_,rfl,rfl,rfl,hf.fine,hk.step (proc_le _ _ _) (fun x ts3 ns3 mo3 hl hk=>?_) (fun a er hb=>by ((conv=>whnf);exact hp _ _ rfl hb))⟩
  have hf:=hf.st hl
  have hl2:=hl.2
  simp only [List.length_cons] at hl2 hn hln
  conv=>whnf
  refine⟨⟨rfl,rfl,rfl,allLt_ok ⟨trivial,rfl⟩⟩,?_⟩
  conv=>whnf
  refine⟨⟨rfl,rfl,rfl,rfl,?_,?_⟩,?_⟩
  ·show (l.length+1)*8≤140737488355328
   omega
  ·show l.length+1≤9223372036854775807
   omega
  conv=>whnf
  refine hle _ _ (Le.cutEnv 3 rfl rfl ⟨rfl,fun _ _=>rfl,?_,trivial⟩ ?_ ?_) (ih ⟨ts3,ns3,mo3,l++[x],n⟩ (by simp only;omega) ⟨?_,?_,?_,hf.lo (by omega),hk⟩)
  ·exact kid_cl l x _ 3 rfl
  ·exact⟨AV.le_refl _,AV.le_of_eq (show AV.slr 2 0 0 (l.length+1)=AV.slr 2 0 0 (l++[x]).length by simp),trivial⟩
  ·exact⟨ABlk.le_refl _,ABlk.le_refl _,kidA_snoc l x _ rfl,trivial⟩
  ·simp only;omega
  ·simp only;omega
  ·simp only [List.length_append,List.length_cons,List.length_nil];omega
 ·have h:(hdK ts != 5)=false:=h
  obtain rfl:ts=[]:=by
   cases ts with
   | nil=>rfl
   | cons t r =>
    obtain⟨tk,_,_,_⟩:=t
    cases tk<;>simp [hdK,TK.code] at h
  replace hk:AK (putS ⟨1,0,0,[],l⟩ ⟨[],ns,mo⟩) (fun a s=>k (.ret (intV a)) (encP e s.ts s.ns 0 s.mo++X)) (fun a er=>k (.pan (wrongV a er)) (deads 2++X)):=by
   cases n<;>exact hk
  conv=>whnf
  refine⟨l,_,_,_,_,_,_,_,_,_,_,_,rfl,rfl,PutK.slr hf.sz rfl rfl rfl (fun _ _=>rfl) ?_⟩
  conv=>whnf
  exact hr _ _ _ _ _ _ rfl rfl hk
end Go.Proofs.YtojjkleplnijaaaGreatDoor
namespace Go.AE
def plainOp:Op→Bool
 | .move _ | .assign _ | .alloc _ | .store _ _ _ | .load _ _ | .extract _ _ | .typeAssert _ _ _ _ | .fieldAddr _ _ _=>true
 | _=>false
def plainL:List Oper→Bool
 | []=>true
 | o::r=>plainOp o.op&&o.guard.isNone&&plainL r
def isRec:Op→Bool
 | .call c=>match c.callee with
  | .builtin .recover=>true
  | _=>false
 | _=>false
def deferOf (o:Oper):Option Nat:=match o.op with
 | .defer c=>match c.callee with
  | .value (.tmp d)=>match c.args.toList with
   | []=>match o.dst with
    | none=>match o.guard with
     | none=>some d
     | some _=>none
    | some _=>none
   | _=>none
  | _=>none
 | _=>none
noncomputable def recE (T:Tab) (fn:Func) (k:List ABlk→Prop) (e:Ex) (s:AS):Prop:=match e with
 | .norm=>ares T fn s fun _=>fK s.K k
 | .ret=>ares T fn s fun _=>fK s.K k
 | _=>False
noncomputable def recM (T:Tab) (call:ACall) (fn:Func) (kb:Nat) (y:Code) (k:List ABlk→Prop) (e:Ex) (s:AS):Prop:=match e with
 | .norm=>awp T call kb fn.ntmps y s (recE T fn k)
 | _=>False
noncomputable def recW (T:Tab) (call:ACall) (fn:Func) (caps:List AV) (K:List ABlk) (rv:AV) (k:List ABlk→Prop):Prop :=
 match fn.body with
 | some (.seq (.region _ ops false) y)=>match ops.toList with
  | o0::os=>match isRec o0.op,o0.dst,o0.guard with
   | true,some d,none=>match plainL os&&Nat.ble (len caps) fn.ntmps&&Nat.blt d fn.ntmps&&noRF y with
    | true=>fV rv fun rv=>aops T call fn.ntmps ops.toList os ((d,rv)::frame0 0 caps) K (recM T call fn (len K) y k)
    | false=>False
   | _,_,_=>False
  | []=>False
 | _=>False
noncomputable def bEnd (T:Tab) (fn:Func) (k:AO→List ABlk→Prop) (e:Ex) (s:AS):Prop:=match e with
 | .norm=>ares T fn s fun v=>fK s.K fun K=>k (.ret v) K
 | .ret=>ares T fn s fun v=>fK s.K fun K=>k (.ret v) K
 | .pan v=>fV v fun v=>fK s.K fun K=>k (.pan v) K
 | .exit _=>False
noncomputable def dRes (T:Tab) (fn:Func) (k:AO→List ABlk→Prop) (t:List (Nat×AV)) (K:List ABlk):Prop:=ares T fn ⟨t,K⟩ fun v=>fK K fun K=>k (.ret v) K
noncomputable def dEnd (T:Tab) (call:ACall) (fn gf:Func) (caps:List AV) (k:AO→List ABlk→Prop) (e:Ex) (s:AS):Prop:=match e with
 | .norm=>recW T call gf caps s.K (.p .nili) (dRes T fn k s.t)
 | .ret=>recW T call gf caps s.K (.p .nili) (dRes T fn k s.t)
 | .pan v=>recW T call gf caps s.K v (dRes T fn k s.t)
 | .exit _=>False
noncomputable def dMid (T:Tab) (call:ACall) (fn:Func) (o1:Oper) (d:Nat) (y:Code) (k:AO→List ABlk→Prop) (s:AS):Prop :=
 bound fn.ntmps o1.dst <| aop T call o1 s.t s.K (fun v K'=>match look (put s.t o1.dst v) d with
  | .fn g first caps=>match first with
   | []=>match T.f.get g with
    | some gf=>match gf.body.isSome with
     | true=>awp T call (len K') fn.ntmps y ⟨put s.t o1.dst v,K'⟩ (dEnd T call fn gf caps k)
     | false=>False
    | none=>False
   | _=>False
  | _=>False) (fun _ _=>False)
noncomputable def abodyD (T:Tab) (call:ACall) (fn:Func) (args:List AV) (K:List ABlk) (k:AO→List ABlk→Prop):Prop :=
 match fn.body with
 | some (.seq c1 (.seq c2 (.seq c3 (.seq (.region _ ops false) y))))=>match ops.toList with
  | [o1,o2]=>match deferOf o2,o1.guard with
   | some d,none=>match Nat.ble (len args) fn.ntmps&&noRF c1&&noRF c2&&noRF c3&&noRF y with
    | true=>fK K fun K=>awp T call (len K) fn.ntmps c1 ⟨frame0 0 args,K⟩ (wSeqK (fun s Q=>awp T call (len K) fn.ntmps c2 s (wSeqK (fun s Q=>awp T call (len K) fn.ntmps c3 s (wSeqK (fun s _=>dMid T call fn o1 d y k s) Q)) Q)) (bEnd T fn k))
    | false=>False
   | _,_=>False
  | _=>False
 | _=>False
section
variable {P:Program} {T:Tab} {call:ACall} {we:World} {me:Mp} {N kb:Nat} {D0:List Deferred} {bm:Bool} {ro:Option Nat} {nn:Nat}
def isPl:Result Next→Bool
 | .ok (.value _) _=>true
 | .ok .skip _=>true
 | .halt _ _=>true
 | _=>false
theorem isPl_val (s:Sem Value) (w:World):isPl ((do pure (Next.value (← s)):Sem Next).run P w)=true:=by
 cases h:s.run P w<;>simp [h,isPl]
theorem isPl_skip (s:Sem Unit) (w:World):isPl ((do s;pure Next.skip:Sem Next).run P w)=true:=by
 cases h:s.run P w<;>simp [h,isPl]
theorem exec_plain {o:Oper} (hp:plainOp o.op=true) (ρ:Operand→Value) (w:World):isPl ((execOp ρ o).run P w)=true:=by
 unfold execOp
 cases hop:o.op<;>rw [hop] at hp<;>first|(simp [plainOp] at hp;done)|exact isPl_val _ _|exact isPl_skip _ _|rfl
theorem aopsS_ok (hT:TabOk P T) (hcall:CallOk P call) {ops:Array Oper} {Q:Ex→AS→Prop} {cs:List Frame} (l:List Oper):∀ (i:Nat) (t:List (Nat×AV)) (K:List ABlk),(∀ j,l[j]?=ops[i+j]?)→plainL l=true →
  aops T call N ops.toList l t K Q→∀ (w:World) (m:Mp) (a:Act),Tr we me w m→St w m (hp K)→EnvOk w m t a.tmps→a.tmps.size=N→Mk bm we D0 w m a.defers →
  wpOpsSIn (FW none) nn P ops (fun e a cs' w'=>cs'=cs∧Rel bm N we me D0 Q e a w') (List.range' i l.length) a cs w:=by
 induction l with
 | nil=>intro i t K _ _ h w m a hTr hS hE hN hd;exact⟨rfl,hN,m,⟨t,K⟩,hd,hTr,hS,hE,h⟩
 | cons o rest ih =>
  intro i t K hl hp h w m a hTr hS hE hN hd
  simp only [plainL,Bool.and_eq_true] at hp
  obtain⟨⟨hp1,hg⟩,hp2⟩:=hp
  have hg:o.guard=none:=by simpa using hg
  rw [aops_cons] at h
  simp only [want,hg] at h
  obtain⟨hb,h⟩:=bound_ok h
  have h0:ops[i]?=some o:=by simpa using (hl 0).symm
  simp only [List.length_cons,List.range'_succ,wpOpsSIn,h0]
  refine⟨fun _ _=>trivial,?_⟩
  rw [if_pos (by simp [Region.wanted,hg])]
  have hu:=aopX_ok (ro:=none) (nn:=nn) (next:=fun a w=>wpOpsSIn (FW none) nn P ops (fun e a cs' w'=>cs'=cs∧Rel bm N we me D0 Q e a w') (List.range' (i+1) rest.length) a cs w)
   (Q:=fun e a w=>cs=cs∧Rel bm N we me D0 Q e a w) hT hcall hS hE (fun w' m' v K' u h1 h2 h3 h4=>ih (i+1) _ _ (fun j=>by have:=hl (j+1);simpa [Nat.add_assoc,Nat.add_comm 1 j] using this) hp2 h4 w' m' _ (hTr.trans h1) h2
    ((hE.mono h1).put (fun x hx=>by rw [hN];exact hb x hx) h3) (by rw [put_size];exact hN) (by rw [put_defers];exact hd.mono h1))
   (fun w' m' v K' u h1 h2 h3 h4=>⟨rfl,hN,m',⟨t,K'⟩,v,u,hd.mono h1,rfl,hTr.trans h1,h2,hE.mono h1,h3,h4⟩) h
  have hpl:=exec_plain (P:=P) hp1 a.eval w
  generalize (execOp a.eval o).run P w=r at hpl hu ⊢
  cases r with
  | ok x w'=>cases x<;>first|exact hu|simp [isPl] at hpl
  | halt x w'=>cases x<;>first|exact⟨trivial,hu.2⟩|exact hu.elim
theorem wpOpsSIn_mono {ops:Array Oper} {Q Q':Exit→Act→List Frame→World→Prop} {l:List Nat} {a:Act} {cs:List Frame} {w:World} (h:wpOpsSIn (FW none) nn P ops Q l a cs w) (hq:∀ e a cs w,Q e a cs w→Q' e a cs w):wpOpsSIn (FW none) nn P ops Q' l a cs w:=by
 induction l generalizing a cs w with
 | nil=>exact hq _ _ _ _ h
 | cons i rest ih =>
  simp only [wpOpsSIn] at h ⊢
  cases ho:ops[i]? with
  | none=>rw [ho] at h;exact ih h
  | some o =>
   rw [ho] at h
   simp only at h ⊢
   refine⟨h.1,?_⟩
   have h:=h.2
   split at h
   ·rename_i hw
    rw [if_pos hw]
    generalize (execOp a.eval o).run P w=r at h ⊢
    cases r with
    | ok x w' =>
     cases x with
     | recover =>
      simp only at h ⊢
      cases hrd:recoverD cs with
      | none=>rw [hrd] at h;exact ih h
      | some x=>rw [hrd] at h;exact ih h
     | value v=>exact ih h
     | skip=>exact ih h
     | _=>exact h.elim
    | halt x w'=>cases x<;>first|exact hq _ _ _ _ h|exact h.elim
   ·rename_i hw
    rw [if_neg hw]
    exact ih h
theorem ares_nores (hT:TabOk P T) {w:World} {m:Mp} {s:AS} {a:Act} (hS:St w m (hp s.K)) (hE:EnvOk w m s.t a.tmps) {fn:Func} {q:Prop} (h:ares T fn s fun _=>q):(∃ u,(results fn a.tmps).run P w=.ok u w)∧q:=by
 obtain⟨u,v,h1,_,h3⟩:=ares_ok hT hS hE h
 exact⟨⟨u,h1⟩,h3⟩
theorem recW_ok (hT:TabOk P T) (hcall:CallOk P call) (hmix:P.follows .mixedOrders=true) {g:FuncId} {fn:Func} (hf:P.funcs[g]?=some fn) {caps:List AV} {K:List ABlk} {rv:AV} {k:List ABlk→Prop} (h:recW T call fn caps K rv k)
  {w:World} {m:Mp} {U:Array Value} {u:FrameMode} (hS:St w m (hp K)) (hU:VL w m caps U)
  (hrec:∀ (c₀:Frame) cs,c₀.mode=u→∃ x u',V w m rv x∧settle u'=.returning∧(recoverD (c₀::cs)=some (x,{ c₀ with mode:=u' }::cs)∨(recoverD (c₀::cs)=none∧x=.nilIface∧u'=u))) :
  CallsDIn (FW none) nn P g U u w (fun e u' w'=>(∃ v,e=.returned v)∧settle u'=.returning∧∃ m' K',Tr w m w' m'∧St w' m' (hp K')∧k K'):=by
 unfold recW at h
 split at h
 case h_2=>exact h.elim
 rename_i id ops y hb
 split at h
 case h_2=>exact h.elim
 rename_i o0 os hops
 split at h
 case h_2=>exact h.elim
 rename_i d hr0 hd0 hg0
 split at h
 case h_2=>exact h.elim
 rename_i hchk
 simp only [Bool.and_eq_true] at hchk
 obtain⟨⟨⟨hpl,hle⟩,hdlt⟩,hrf⟩:=hchk
 have hle:caps.length≤fn.ntmps:=by have:=Nat.le_of_ble_eq_true hle;rwa [len_eq] at this
 have hdlt:d<fn.ntmps:=Nat.le_of_ble_eq_true hdlt
 rw [fV_eq] at h
 have hkb:∀ r,len K≤r→m.L r=.absent:=fun r hr=>hS.absent (by
  simp only [hp,nth_eq]
  rw [len_eq] at hr
  rw [List.getElem?_eq_none hr])
 refine callsDIn_of_wpSIn hf hb trivial fun c₀ cs hu=>?_
 obtain⟨x,u',hx,hset,hrd⟩:=hrec c₀ cs hu
 refine wpSIn_seq (wpSIn_region ?_)
 have hsz:ops.size=os.length+1:=by rw [← Array.length_toList,hops];rfl
 have hr:List.range ops.size=0::List.range' 1 os.length:=by
  rw [hsz,List.range_eq_range',List.range'_succ]
 rw [hr]
 have h0:ops[0]?=some o0:=by rw [← Array.getElem?_toList,hops];rfl
 simp only [wpOpsSIn,h0]
 refine⟨fun _ _=>trivial,?_⟩
 rw [if_pos (by simp [Region.wanted,hg0])]
 have hexec:(execOp (Act.eval { tmps:=U++Array.replicate (fn.ntmps - U.size) undef,defers:=[] }) o0).run P w=.ok .recover w:=by
  unfold isRec at hr0
  split at hr0
  case h_2=>simp at hr0
  rename_i c hop
  split at hr0
  case h_2=>simp at hr0
  rename_i hc
  unfold execOp
  simp only [hop,resolve,hc]
  simp [go_sem,invoke,builtin]
 rw [hexec]
 have hN:(U++Array.replicate (fn.ntmps - U.size) undef).size=fn.ntmps:=by simp;have:=hU.1;omega
 have hE0:EnvOk w m ((d,rv)::frame0 0 caps) ((U++Array.replicate (fn.ntmps - U.size) undef).setIfInBounds d x):=(EnvOk.frame hU _).set (by rw [hN];exact hdlt) hx
 have key:wpOpsSIn (FW none) nn P ops (Exit.thenS (y.wpSIn (FW none) nn P (bodyPostS P fn c₀ cs fun e u' w'=>(∃ v,e=.returned v)∧settle u'=.returning∧∃ m' K',Tr w m w' m'∧St w' m' (hp K')∧k K'))
   (bodyPostS P fn c₀ cs fun e u' w'=>(∃ v,e=.returned v)∧settle u'=.returning∧∃ m' K',Tr w m w' m'∧St w' m' (hp K')∧k K')) (List.range' 1 os.length)
   { tmps:=(U++Array.replicate (fn.ntmps - U.size) undef).setIfInBounds d x,defers:=[] } ({ c₀ with mode:=u' }::cs) w:=by
  refine wpOpsSIn_mono (aopsS_ok (bm:=false) (D0:=[]) (we:=w) (me:=m) (cs:={ c₀ with mode:=u' }::cs) hT hcall os 1 _ K (fun j=>?_) hpl h w m _ (Tr.refl w m) hS hE0 (by simpa using hN) .base) ?_
  ·rw [← Array.getElem?_toList,hops,Nat.add_comm];rfl
  rintro e a1 cs1 w1 ⟨rfl,hR⟩
  cases e with
  | normal =>
   obtain⟨hN1,m1,s1,hd1,hT1,hS1,hE1,hQ⟩:=hR
   refine wpSIn_of_wpIn rfl (wpIn_mono (awp_ok (ro:=none) (bm:=false) (D0:=[]) (we:=w) (me:=m) hT hcall hmix hkb (fun d hd=>by simp at hd) y _ _ hQ w1 m1 a1 hT1 hS1 hE1 hN1 hd1 (.inr hrf)) fun e a2 w2 hR2=>?_)
   have fin:∀ (m2:Mp) (s2:AS),Mk false w [] w2 m2 a2.defers→Tr w m w2 m2→St w2 m2 (hp s2.K)→EnvOk w2 m2 s2.t a2.tmps→(ares T fn s2 fun _=>fK s2.K k) →
     a2.defers=[]∧∃ u1,({ c₀ with mode:=u' }::cs:List Frame)={ c₀ with mode:=u1 }::cs∧∃ v,(results fn a2.tmps).run P w2=.ok v w2∧((∃ v',Ending.returned v=.returned v')∧settle u1=.returning∧∃ m' K',Tr w m w2 m'∧St w2 m' (hp K')∧k K'):=by
    intro m2 s2 hd2 hT2 hS2 hE2 hQ2
    obtain⟨⟨v,hv⟩,hk⟩:=ares_nores (a:=a2) hT hS2 hE2 hQ2
    rw [fK_eq] at hk
    refine⟨?_,u',rfl,v,hv,⟨v,rfl⟩,hset,m2,s2.K,hT2,hS2,hk⟩
    generalize a2.defers=ds at hd2
    cases hd2 with
    | base=>rfl
    | mark hb=>simp at hb
   cases e with
   | normal=>obtain⟨_,m2,s2,hd2,hT2,hS2,hE2,hQ2⟩:=hR2;exact fin m2 s2 hd2 hT2 hS2 hE2 hQ2
   | ret=>obtain⟨_,m2,s2,hd2,hT2,hS2,hE2,hQ2⟩:=hR2;exact fin m2 s2 hd2 hT2 hS2 hE2 hQ2
   | exit n=>obtain⟨_,_,_,_,_,_,_,hQ2⟩:=hR2;exact hQ2.elim
   | panic ch=>obtain⟨_,_,_,_,_,_,_,_,_,_,_,hQ2⟩:=hR2;exact hQ2.elim
   | goto l=>exact hR2.elim
   | outgrown=>exact hR2.elim
  | exit n=>obtain⟨_,_,_,_,_,_,_,hQ2⟩:=hR;exact hQ2.elim
  | ret=>obtain⟨_,_,_,_,_,_,_,hQ2⟩:=hR;exact hQ2.elim
  | panic ch=>obtain⟨_,_,_,_,_,_,_,_,_,_,_,hQ2⟩:=hR;exact hQ2.elim
  | goto l=>exact hR.elim
  | outgrown=>exact hR.elim
 rcases hrd with hrd|⟨hrd,rfl,rfl⟩
 ·simp only [hrd,hd0,Act.put]
  exact key
 ·simp only [hrd,hd0,Act.put]
  subst hu
  exact key
theorem mk_false {w:World} {m:Mp} {ds:List Deferred} (h:Mk false we D0 w m ds):ds=D0:=by
 cases h with
 | base=>rfl
 | mark hb=>simp at hb
theorem bEnd_ok (hT:TabOk P T) {fn:Func} {k:AO→List ABlk→Prop} {e:Exit} {a:Act} {w:World} (h:Rel false N we me [] (bEnd T fn k) e a w):bodyPostM (FW none) nn P fn (Post we me k) e a w:=by
 cases e with
 | normal =>
  obtain⟨_,m',s',hd,h1,h2,h3,h4⟩:=h
  obtain⟨u,v,h5,h6,h7⟩:=ares_ok (s:=s') (a:=a) hT h2 h3 h4
  rw [fK_eq] at h7
  show LeavesInM (FW none) nn P fn a.tmps _ a.defers .returning w
  rw [mk_false hd]
  exact⟨u,h5,m',v,s'.K,h1,h2,h6,h7⟩
 | ret =>
  obtain⟨_,m',s',hd,h1,h2,h3,h4⟩:=h
  obtain⟨u,v,h5,h6,h7⟩:=ares_ok (s:=s') (a:=a) hT h2 h3 h4
  rw [fK_eq] at h7
  show LeavesInM (FW none) nn P fn a.tmps _ a.defers .returning w
  rw [mk_false hd]
  exact⟨u,h5,m',v,s'.K,h1,h2,h6,h7⟩
 | panic ch =>
  obtain⟨_,m',s',v,u,hd,rfl,h1,h2,h3,h4,h5⟩:=h
  simp only [bEnd,fV_eq,fK_eq] at h5
  show LeavesInM (FW none) nn P fn a.tmps _ a.defers (.panicking _) w
  rw [mk_false hd]
  exact⟨m',v,u,s'.K,rfl,h1,h2,h4,h5⟩
 | exit n=>obtain⟨_,_,_,_,_,_,_,h⟩:=h;exact h.elim
 | goto l=>exact h
 | outgrown=>exact h.elim
theorem dRes_ok (hT:TabOk P T) {fn:Func} {k:AO→List ABlk→Prop} {t:List (Nat×AV)} {K:List ABlk} {tmps:Array Value} {w:World} {m:Mp} (h:dRes T fn k t K) (hTr:Tr we me w m) (hS:St w m (hp K)) (hE:EnvOk w m t tmps) :
  LeavesInM (FW none) nn P fn tmps (Post we me k) [] .returning w:=by
 unfold dRes at h
 obtain⟨u,v,h5,h6,h7⟩:=ares_ok (s:=⟨t,K⟩) (a:={ tmps:=tmps,defers:=[] }) hT hS hE h
 rw [fK_eq] at h7
 exact⟨u,h5,m,v,K,hTr,hS,h6,h7⟩
theorem dEnd_ok (hT:TabOk P T) (hcall:CallOk P call) (hmix:P.follows .mixedOrders=true) {fn gf:Func} {g:FuncId} (hent:Ent P g) (hg:P.funcs[g]?=some gf) {caps:List AV} {U:Array Value} {k:AO→List ABlk→Prop} {w1:World} {m1:Mp}
  (hT1:Tr we me w1 m1) (hU:VL w1 m1 caps U) {e:Exit} {a:Act} {w:World} (h:Rel false N w1 m1 [{ target:=.fn (.func g) U,args:=#[] }] (dEnd T call fn gf caps k) e a w) :
  bodyPostM (FW none) nn P fn (Post we me k) e a w:=by
 have core:∀ (u:FrameMode) (m':Mp) (s':AS) (rv:AV),u≠.run→Mk false w1 [{ target:=.fn (.func g) U,args:=#[] }] w m' a.defers→Tr w1 m1 w m'→St w m' (hp s'.K)→EnvOk w m' s'.t a.tmps →
   recW T call gf caps s'.K rv (dRes T fn k s'.t) →
   (∀ (c₀:Frame) cs,c₀.mode=u→∃ x u',V w m' rv x∧settle u'=.returning∧(recoverD (c₀::cs)=some (x,{ c₀ with mode:=u' }::cs)∨(recoverD (c₀::cs)=none∧x=.nilIface∧u'=u))) →
   LeavesInM (FW none) nn P fn a.tmps (Post we me k) a.defers u w:=by
  intro u m' s' rv hu hd h1 h2 h3 h4 hrec
  rw [mk_false hd]
  refine⟨hu,.inr ⟨FW.depth,.func g,U,g,U,rfl,?_,fun _ _=>trivial,?_⟩⟩
  ·simp [invoke,callFunc_run hent]
  ·refine CallsDIn.mono (recW_ok hT hcall hmix hg h4 h2 ⟨hU.1,fun j hj hj'=>(hU.2 j hj hj').mono h1⟩ hrec) ?_
   rintro e u' w' ⟨⟨v,rfl⟩,hset,m2,K2,h5,h6,h7⟩
   show LeavesInM (FW none) nn P fn a.tmps (Post we me k) [] (settle u') w'
   rw [hset]
   exact dRes_ok hT h7 (hT1.trans (h1.trans h5)) h6 (h3.mono h5)
 have ret:∀ (m':Mp) (c₀:Frame) (cs:List Frame),c₀.mode=.returning→∃ x u',V w m' (.p .nili) x∧settle u'=.returning∧(recoverD (c₀::cs)=some (x,{ c₀ with mode:=u' }::cs)∨(recoverD (c₀::cs)=none∧x=.nilIface∧u'=.returning)) :=
  fun m' c₀ cs hc=>⟨.nilIface,.returning,.p _ _ .nili,rfl,.inr ⟨by simp [recoverD,hc],rfl,rfl⟩⟩
 cases e with
 | normal =>
  obtain⟨_,m',s',hd,h1,h2,h3,h4⟩:=h
  exact core .returning m' s' _ (by simp) hd h1 h2 h3 h4 (ret m')
 | ret =>
  obtain⟨_,m',s',hd,h1,h2,h3,h4⟩:=h
  exact core .returning m' s' _ (by simp) hd h1 h2 h3 h4 (ret m')
 | panic ch =>
  obtain⟨_,m',s',v,u,hd,rfl,h1,h2,h3,h4,h5⟩:=h
  exact core (.panicking [{ v:=u,recovered:=false }]) m' s' v (by simp) hd h1 h2 h3 h5 fun c₀ cs hc=>⟨u,.panicking [{ v:=u,recovered:=true }],h4,rfl,.inl (by simp [recoverD,hc])⟩
 | exit n=>obtain⟨_,_,_,_,_,_,_,h⟩:=h;exact h.elim
 | goto l=>exact h
 | outgrown=>exact h.elim
theorem defer_exec {o:Oper} {d:Nat} (h:deferOf o=some d) {ρ:Operand→Value} {g:FuncId} {B:Array Value} (hv:ρ (.tmp d)=.func (.func g) #[] B) (w:World) :
  o.dst=none∧o.guard=none∧(execOp ρ o).run P w=.ok (.defer { target:=.fn (.func g) B,args:=#[] }) w:=by
 unfold deferOf at h
 split at h
 case h_2=>simp at h
 rename_i c hop
 split at h
 case h_2=>simp at h
 rename_i x hc
 split at h
 case h_2=>simp at h
 rename_i hargs
 split at h
 case h_2=>simp at h
 rename_i hdst
 split at h
 case h_2=>simp at h
 rename_i hg
 simp only [Option.some.injEq] at h
 subst h
 have hargs:c.args=#[]:=by apply Array.ext';simpa using hargs
 refine⟨hdst,hg,?_⟩
 unfold execOp
 simp only [hop]
 simp [resolve,hc,hv,hargs,Deferred.ofValue]
theorem abodyD_ok (hT : TabOk P T) (hcall : CallOk P call) (hmix : P.follows .mixedOrders = true) {f : FuncId} {fn : Func} (hf : P.funcs[f]? = some fn) (hn : (fn.name == "runtime.NumGoroutine") = false) {args : List AV} {K : List ABlk} {k : AO → List ABlk → Prop}
  (h:abodyD T call fn args K k):ACalls P f args K k:=by
 unfold abodyD at h
 split at h
 case h_2=>exact h.elim
 rename_i c1 c2 c3 id ops y hb
 split at h
 case h_2=>exact h.elim
 rename_i o1 o2 hops
 split at h
 case h_2=>exact h.elim
 rename_i d hdo hg1
 split at h
 case h_2=>exact h.elim
 rename_i hchk
 simp only [Bool.and_eq_true] at hchk
 obtain⟨⟨⟨⟨hle,hn1⟩,hn2⟩,hn3⟩,hn4⟩:=hchk
 have hle:args.length≤fn.ntmps:=by have:=Nat.le_of_ble_eq_true hle;rwa [len_eq] at this
 refine⟨⟨fn,hf,hn,by rw [hb];rfl⟩,fun w m Args hS hA=>(callsIn_wide (n:=0)).1 (callsIn_of_wp_marks hf hb trivial ?_)⟩
 show Code.wpIn (FW none) 0 P _ (bodyPostM (FW none) 0 P fn (Post w m k)) _ w
 rw [fK_eq] at h
 have hkb:∀ r,len K≤r→m.L r=.absent:=fun r hr=>hS.absent (by
  simp only [hp,nth_eq]
  rw [len_eq] at hr
  rw [List.getElem?_eq_none hr])
 have hD0:∀ d∈([]:List Deferred),∀ D,d.target≠.collected D:=fun d hd=>by simp at hd
 refine wpIn_seq (wpIn_mono (awp_ok (ro:=none) (bm:=false) (D0:=[]) (we:=w) (me:=m) hT hcall hmix hkb hD0 c1 _ _ h w m _ (Tr.refl w m) hS (EnvOk.frame hA _) (by simp;have:=hA.1;omega) .base (.inr hn1)) fun e a1 w1 hR=>?_)
 cases e with
 | exit n=>exact bEnd_ok (nn:=0) (e:=.exit n) (N:=fn.ntmps) hT (show Rel false fn.ntmps w m [] (bEnd T fn k) (.exit n) a1 w1 from hR)
 | ret=>exact bEnd_ok (nn:=0) (e:=.ret) (N:=fn.ntmps) hT (show Rel false fn.ntmps w m [] (bEnd T fn k) .ret a1 w1 from hR)
 | panic ch=>exact bEnd_ok (nn:=0) (e:=.panic ch) (N:=fn.ntmps) hT (show Rel false fn.ntmps w m [] (bEnd T fn k) (.panic ch) a1 w1 from hR)
 | goto l=>exact hR.elim
 | outgrown=>exact hR.elim
 | normal =>
 obtain⟨hN1,m1,s1,hd1,hT1,hS1,hE1,h1⟩:=hR
 refine wpIn_seq (wpIn_mono (awp_ok (ro:=none) (bm:=false) (D0:=[]) (we:=w) (me:=m) hT hcall hmix hkb hD0 c2 _ _ h1 w1 m1 a1 hT1 hS1 hE1 hN1 hd1 (.inr hn2)) fun e a2 w2 hR=>?_)
 cases e with
 | exit n=>exact bEnd_ok (nn:=0) (e:=.exit n) (N:=fn.ntmps) hT (show Rel false fn.ntmps w m [] (bEnd T fn k) (.exit n) a2 w2 from hR)
 | ret=>exact bEnd_ok (nn:=0) (e:=.ret) (N:=fn.ntmps) hT (show Rel false fn.ntmps w m [] (bEnd T fn k) .ret a2 w2 from hR)
 | panic ch=>exact bEnd_ok (nn:=0) (e:=.panic ch) (N:=fn.ntmps) hT (show Rel false fn.ntmps w m [] (bEnd T fn k) (.panic ch) a2 w2 from hR)
 | goto l=>exact hR.elim
 | outgrown=>exact hR.elim
 | normal =>
 obtain⟨hN2,m2,s2,hd2,hT2,hS2,hE2,h2⟩:=hR
 refine wpIn_seq (wpIn_mono (awp_ok (ro:=none) (bm:=false) (D0:=[]) (we:=w) (me:=m) hT hcall hmix hkb hD0 c3 _ _ h2 w2 m2 a2 hT2 hS2 hE2 hN2 hd2 (.inr hn3)) fun e a3 w3 hR=>?_)
 cases e with
 | exit n=>exact bEnd_ok (nn:=0) (e:=.exit n) (N:=fn.ntmps) hT (show Rel false fn.ntmps w m [] (bEnd T fn k) (.exit n) a3 w3 from hR)
 | ret=>exact bEnd_ok (nn:=0) (e:=.ret) (N:=fn.ntmps) hT (show Rel false fn.ntmps w m [] (bEnd T fn k) .ret a3 w3 from hR)
 | panic ch=>exact bEnd_ok (nn:=0) (e:=.panic ch) (N:=fn.ntmps) hT (show Rel false fn.ntmps w m [] (bEnd T fn k) (.panic ch) a3 w3 from hR)
 | goto l=>exact hR.elim
 | outgrown=>exact hR.elim
 | normal =>
 obtain⟨hN3,m3,s3,hd3,hT3,hS3,hE3,h3⟩:=hR
 simp only [wSeqK,dMid] at h3
 obtain⟨hb1,h3⟩:=bound_ok h3
 refine wpIn_seq (wpIn_region_list ?_)
 rw [hops]
 unfold wpListIn
 rw [if_pos (by simp [Region.wanted,hg1])]
 refine⟨fun _ _=>trivial,?_⟩
 rw [show (FW none).round=none from rfl,Oper.semAt_none]
 refine aop_ok (ro:=none) hT hcall hS3 hE3 (fun w4 m4 v K4 u hT4 hS4 hV4 h4=>?_) (fun w' m' v K' u _ _ _ h4=>h4.elim) h3
 have hE4:=(hE3.mono hT4).put (a:=a3) (d:=o1.dst) (fun x hx=>by rw [hN3];exact hb1 x hx) hV4
 have hvd:=hE4 d
 split at h4
 case h_2=>exact h4.elim
 rename_i g first caps hlk
 split at h4
 case h_2=>exact h4.elim
 split at h4
 case h_2=>exact h4.elim
 rename_i gf hgf
 split at h4
 case h_2=>exact h4.elim
 rename_i hbody
 obtain⟨hg2,hg3⟩:=hT.f g gf hgf
 rw [hlk] at hvd
 generalize hud:(a3.put o1.dst u).tmps.getD d undef=ud at hvd
 cases hvd with
 | fn _ _ _ A B hA' hB h1 h2' =>
 have hA0:A=#[]:=by
  have:A.size=0:=by simpa using hA'.symm
  exact Array.eq_empty_of_size_eq_zero this
 subst hA0
 have hev:(a3.put o1.dst u).eval (.tmp d)=.func (.func g) #[] B:=hud
 obtain⟨hx1,hx2,hx3⟩:=defer_exec (P:=P) hdo hev w4
 unfold wpListIn
 rw [if_pos (by simp [Region.wanted,hx2])]
 refine⟨fun _ _=>trivial,?_⟩
 rw [show (FW none).round=none from rfl,Oper.semAt_none,hx3,Oper.uponIn_defer,hx1]
 show Code.wpIn _ _ _ y _ { a3.put o1.dst u with defers:=_ } w4
 have hda:(a3.put o1.dst u).defers=[]:=by rw [put_defers];exact mk_false hd3
 rw [hda]
 have hkb4:∀ r,len K4≤r→m4.L r=.absent:=fun r hr=>hS4.absent (by
  simp only [hp,nth_eq]
  rw [len_eq] at hr
  rw [List.getElem?_eq_none hr])
 have hent:Ent P g:=⟨gf,hg2,hg3,hbody⟩
 refine wpIn_mono (awp_ok (ro:=none) (bm:=false) (D0:=[{ target:=.fn (.func g) B,args:=#[] }]) (we:=w4) (me:=m4) hT hcall hmix hkb4 (fun d hd D=>by
  simp only [List.mem_singleton] at hd;subst hd;simp) y _ _ h4 w4 m4 _ (Tr.refl w4 m4) hS4 hE4 (by rw [put_size];exact hN3) .base (.inr hn4)) fun e a' w' hR=>dEnd_ok hT hcall hmix hent hg2 (hT3.trans hT4) ⟨hB,h2'⟩ hR
end
end Go.AE
namespace Go.Proofs.YtojjkleplnijaaaGreatDoor
open Go.AE Go.Ru
set_option maxRecDepth 100000
def cStd (S:Int→PS→R Int):AC:=fun args K k=>∃ e ts ns mo X,args=[pp]∧K=encP e ts ns 0 mo++X∧Fine 40 ts ns∧After e (S e ⟨ts,ns,mo⟩) intV 0 X k
def pbW (e:Int) (ts:List Tok) (nv:AV) (mo:Int):ABlk:=.box 129 [.p (.sl 4 (ts.length+1) (encs e ts)),nv,intV 0,intV mo]
def cWhat (S:Int→PS→R Int):AC:=fun args K k=>∃ (e:Int) (ts:List Tok) (y0 y1 y2 y3:ABlk),args=[.ptr 4 0 1 0 0]∧K=[y0,y1,y2,y3,pbW e ts (.p .nils) 0]∧Fine 40 ts [] ∧
 (∀ a ts' ns' mo',S e ⟨ts,[],0⟩=.ok a ⟨ts',ns',mo'⟩→k (.ret (intV a)) [y0,y1,y2,y3,pbW e ts' (.p (.sl 5 ns'.length (nodeF ns'))) mo',.dead]) ∧
 (∀ a er,S e ⟨ts,[],0⟩=.bad a er→k (.pan (wrongV a er)) [y0,y1,y2,y3,.dead,.dead])
theorem ups_pvs (n:Nat) (l:List PV):AV.ups n (pvs l)=pvs l:=by
 induction l with
 | nil=>rfl
 | cons a l ih=>simp [pvs,AV.ups,AV.up,ih]
theorem what_ok {f:FuncId} {S:Int→PS→R Int} (h0:COk f (cStd S)):COk f (cWhat S):=by
 rintro args K k ⟨e,ts,y0,y1,y2,y3,rfl,rfl,hf,hk1,hk2⟩
 refine ACalls.post (k:=fun ao K1=>(∃ a ts' ns' mo',S e ⟨ts,[],0⟩=.ok a ⟨ts',ns',mo'⟩∧ao=.ret (intV a)∧K1=[y0,y1,y2,y3]++upsB 4 (encP e ts' ns' 0 mo')) ∨
  (∃ a er,S e ⟨ts,[],0⟩=.bad a er∧ao=.pan (wrongV a er)∧K1=[y0,y1,y2,y3,.dead,.dead])) ?_ ?_
 ·refine ACalls.nilPre (K':=[y0,y1,y2,y3,pbW e ts (.slr 5 0 0 0) 0]) 61 5 (fun i=>pvs (nodeF [] i)) ⟨.inl (ABlk.le_refl _),.inl (ABlk.le_refl _),.inl (ABlk.le_refl _),.inl (ABlk.le_refl _),.inr ⟨_,_,_,rfl,rfl,.inl (AV.le_refl _),.inr ⟨rfl,rfl⟩,.inl (AV.le_refl _),.inl (AV.le_refl _),trivial⟩,trivial⟩ ?_
  refine ACalls.shift (n:=4) (Y:=[y0,y1,y2,y3]) (K1:=[pbW e ts (.slr 5 0 0 0) 0,.arr 61 5 0 0 (fun i=>pvs (nodeF [] i))]) rfl ⟨trivial,trivial,trivial⟩ ?_
  refine ACalls.pre (args':=[pp]) (K':=encP e ts [] 0 0++[]) ?_ (fun w m Args hS hV=>⟨m,Tr.refl w m,hS.les ?_,hV⟩)
  ·refine h0 _ _ _ ⟨e,ts,[],0,[],rfl,rfl,hf,⟨fun a ts' ns' mo' hr=>?_,fun a er hr=>?_⟩⟩
   ·exact⟨⟨trivial,trivial,trivial⟩,.inl ⟨a,ts',ns',mo',hr,rfl,rfl⟩⟩
   ·exact⟨⟨trivial,trivial,trivial⟩,.inr ⟨a,er,hr,rfl,rfl⟩⟩
  ·exact⟨ABlk.le_refl _,ABlk.arr_eq rfl fun i hi=>by simp at hi,trivial⟩
 ·rintro ao K1 (⟨a,ts',ns',mo',hr,rfl,rfl⟩|⟨a,er,hr,rfl,rfl⟩)
  ·refine⟨intV a,_,Wk1.fz (r:=5) (ty:=61) (sz:=5) (n:=ns'.length) (f:=fun i=>AV.ups 4 (pvs (nodeF ns' i))) (nodeF ns') rfl (fun i _=>ups_pvs _ _) ?_ (AV.le_refl _),hk1 a ts' ns' mo' hr⟩
   exact⟨.inl (ABlk.le_refl _),.inl (ABlk.le_refl _),.inl (ABlk.le_refl _),.inl (ABlk.le_refl _),.inr ⟨_,_,_,rfl,rfl,.inl (AV.le_refl _),.inr ⟨rfl,rfl⟩,.inl (AV.le_refl _),.inl (AV.le_refl _),trivial⟩,.inl (ABlk.le_refl _),trivial⟩
  ·exact⟨_,_,Wk1.refl _ _ _,hk2 a er hr⟩
inductive RR where
 | bad (at_ err:Int)
 | ok (ns:List Nd) (root mo:Int)
def readS (S:Int→PS→R Int) (s:Bs):RR :=
 if s.length>20000 then .bad 0 7 else match cutT s with
 | .bad a=>.bad a 2
 | .ok ts=>match S s.length ⟨ts,[],0⟩ with
  | .bad a er=>.bad a er
  | .ok root s'=>match s'.ts with
   | t::_=>.bad t.at_ 2
   | []=>if 4000<s'.ns.length then .bad 0 8 else if 40<depthS s'.ns root then .bad 0 6 else .ok s'.ns root s'.mo
def readV:RR→AV
 | .bad a er=>.tup [.agg [.p .nils,intV 0],intV 0,intV a,intV er]
 | .ok ns root mo=>.tup [treeV ns root,intV mo,intV 0,intV 0]
theorem cutS_len:∀ (n:Nat) (r:Bs) (i:Nat) (l:List Tok),cutS n r i=.ok l→l.length≤r.length:=by
 intro n
 induction n with
 | zero=>intro r i l h;simp only [cutS,CR.ok.injEq] at h;subst h;exact Nat.zero_le _
 | succ n ih =>
  intro r i l h
  cases r with
  | nil=>simp only [cutS,CR.ok.injEq] at h;subst h;exact Nat.zero_le _
  | cons c r' =>
   simp only [cutS] at h
   split at h
   ·have:=ih _ _ _ h
    simp only [List.length_drop] at this;omega
   split at h
   ·have:=ih _ _ _ h
    have h2:=(List.dropWhile_sublist (fun c=>!(c==(10:UInt8))) (l:=c::r')).length_le
    omega
   split at h
   ·rename_i hp
    split at h
    ·cases h
    ·rename_i k v hw
     cases hc:cutS n ((c::r').drop (runS partsT (c::r'))) (i+runS partsT (c::r')) with
     | bad a=>rw [hc] at h;simp [CR.cons] at h
     | ok l' =>
      rw [hc] at h
      simp only [CR.cons,CR.ok.injEq] at h
      subst h
      have:=ih _ _ _ hc
      simp only [List.length_drop,List.length_cons] at this ⊢;omega
   ·split at h
    ·cases h
    ·rename_i m hm
     cases hc:cutS n ((c::r').drop (m+1)) (i+(m+1)) with
     | bad a=>rw [hc] at h;simp [CR.cons] at h
     | ok l' =>
      rw [hc] at h
      simp only [CR.cons,CR.ok.injEq] at h
      subst h
      have:=ih _ _ _ hc
      simp only [List.length_drop,List.length_cons] at this ⊢;omega
theorem call_okD {G:AG} (hG:GOk Tryz.prog G) (n:Nat) {f:FuncId} {fn:Func} (hf:T0.f.get f=some fn) {args:List AV} {K:List ABlk} {k:AO→List ABlk→Prop} (h:abodyD T0 (acall T0 G n) fn args K k):ACalls Tryz.prog f args K k:=by
 obtain⟨h1,h2⟩:=tabOk.f f fn hf
 exact abodyD_ok tabOk (acall_ok tabOk (Checked.mixed Tryz.checked) hG n) (Checked.mixed Tryz.checked) h1 h2 h
theorem frame0D {G:AG} (hG:GOk Tryz.prog G) (n:Nat) {f:FuncId} {fn:Func} (hf:T0.f.get f=some fn) {args:List AV} {X:List ABlk} {k:AO→List ABlk→Prop} (hcl:AV.cls 0 args=true)
  (h:∀ Q:AO→List ABlk→Prop,(∀ v K',v.cl 0=true→k (.ret v) X→Q (.ret v) K')→abodyD T0 (acall T0 G n) fn args [] Q):ACalls Tryz.prog f args X k:=by
 refine (ACalls.frame (K0:=[]) (X:=X) (k:=fun ao K1=>k ao (K1++X)) hcl (fun r h=>by simp at h) (call_okD hG n hf (h _ ?_))).mono fun ao K ⟨K1,h1,h2⟩=>by subst h1;exact h2
 intro v K' h1 h2
 refine⟨h1,by simp,fun r hr=>by simp at hr,?_⟩
 show k (.ret v) (takeN K' 0++X)
 rw [takeN_zero];exact h2
def gRd (f:FuncId) (S:Int→PS→R Int):AG:=gput 128 cCutT (gput f (cWhat S) (gput 86 cDepth g0))
theorem gRd_ok {f:FuncId} {S:Int→PS→R Int} (h0:COk f (cStd S)):GOk Tryz.prog (gRd f S):=gput_ok cutT_ok (gput_ok (what_ok h0) (gput_ok depth_ok g0_ok))
def cRead (f:FuncId) (S:Int→PS→R Int):AC:=fun args K k=>∃ s,args=[.p (.str s),.p (.fn f)]∧s.length<1000000∧k (.ret (readV (readS S s))) K
theorem readP_ok (S:Int→PS→R Int) (hS:∀ e ts a s',List.length ts≤20000→S e ⟨ts,[],0⟩=.ok a s'→s'.ns.length<1000000) (h0:COk 84 (cStd S)) :
  COk 83 (cRead 84 S):=by
  rintro args K k ⟨s,rfl,hs,hk⟩
  refine frame0D (gRd_ok h0) 19 rfl rfl fun Q hr=>?_
  conv=>whnf
  refine⟨s,rfl,hs,fun h=>?_,fun h=>?_⟩
  ·have e:readS S s=.bad 0 7:=by unfold readS;rw [if_pos h]
   rw [e] at hk
   conv=>whnf
   repeat ((refine And.intro ?_ ?_);(focus ((conv=>whnf);done));conv=>whnf)
   exact hr _ _ rfl hk
  unfold readS at hk
  rw [if_neg (by omega)] at hk
  cases hc:cutT s with
  | bad a =>
   rw [hc] at hk
   conv=>whnf
   repeat ((refine And.intro ?_ ?_);(focus ((conv=>whnf);done));conv=>whnf)
   exact hr _ _ rfl hk
  | ok ts =>
   rw [hc] at hk
   have hln:ts.length≤s.length:=cutS_len _ _ _ _ hc
   simp only at hk
   conv=>whnf
   refine⟨s.length,ts,_,_,_,_,rfl,rfl,⟨Nat.le_refl _,by simp only [List.length_nil];omega⟩,fun a ts2 ns2 mo2 hp=>?_,fun a er hp=>?_⟩
   ·have hns:=hS _ _ _ _ (by omega) hp
    rw [hp] at hk
    simp only at hk hns
    cases ts2 with
    | cons t r =>
     obtain⟨tk,tn,ta,tx⟩:=t
     cases tk <;>
     ·conv=>whnf
      refine⟨by simp<;>omega,?_⟩
      conv=>whnf
      refine⟨by simp<;>omega,?_⟩
      conv=>whnf
      repeat ((refine And.intro ?_ ?_);(focus ((conv=>whnf);done));conv=>whnf)
      exact hr _ _ rfl hk
    | nil =>
     conv=>whnf
     refine⟨by simp,?_⟩
     conv=>whnf
     have hd1:decide ((ns2.length:Int)>4000)=decide (4000<ns2.length):=by
      by_cases h:4000<ns2.length
      ·rw [decide_eq_true h,decide_eq_true (by omega)]
      ·rw [decide_eq_false h,decide_eq_false (by omega)]
     refine two_intro (fun h1=>?_) (fun h1=>?_)
     ·have h1:=of_decide_eq_true (hd1▸h1)
      rw [if_pos h1] at hk
      conv=>whnf
      repeat ((refine And.intro ?_ ?_);(focus ((conv=>whnf);done));conv=>whnf)
      exact hr _ _ rfl hk
     have h1:=of_decide_eq_false (hd1▸h1)
     rw [if_neg h1] at hk
     conv=>whnf
     refine⟨ns2,a,rfl,hns,?_⟩
     conv=>whnf
     have hd2:decide (((depthS ns2 a:Nat):Int)>40)=decide (40<depthS ns2 a):=by
      by_cases h:40<depthS ns2 a
      ·rw [decide_eq_true h,decide_eq_true (by omega)]
      ·rw [decide_eq_false h,decide_eq_false (by omega)]
     refine two_intro (fun h2=>?_) (fun h2=>?_)
     ·have h2:=of_decide_eq_true (hd2▸h2)
      rw [if_pos h2] at hk
      conv=>whnf
      repeat ((refine And.intro ?_ ?_);(focus ((conv=>whnf);done));conv=>whnf)
      exact hr _ _ rfl hk
     have h2:=of_decide_eq_false (hd2▸h2)
     rw [if_neg h2] at hk
     conv=>whnf
     repeat ((refine And.intro ?_ ?_);(focus ((conv=>whnf);done));conv=>whnf)
     exact hr _ _ rfl hk
   ·rw [hp] at hk
    simp only at hk
    conv=>whnf
    repeat ((refine And.intro ?_ ?_);(focus ((conv=>whnf);done));conv=>whnf)
    exact hr _ _ rfl hk
theorem programS_len (e:Int) (ts:List Tok) (a:Int) (s':PS) (hl:ts.length≤20000) (h:programS e ⟨ts,[],0⟩=.ok a s'):s'.ns.length<1000000:=by
 have:Okk (programS e ⟨ts,[],0⟩) (fun s'=>s'.ns.length<1000000):=by
  unfold programS
  refine Okk.bind (vars_le e 2 ⟨ts,[],0⟩) fun l s1 h1=>Okk.bind (procsL_le e 40 _ l s1) fun l2 s2 h2=>(put_len _ s2).imp fun s3 h3=>?_
  simp only [Lw,List.length_nil] at h1 h2 h3
  omega
 exact this a s' h
abbrev proS (s:Bs):RR:=readS programS s
def gPr:AG:=gput 83 (cRead 84 programS) g0
theorem gPr_ok:GOk Tryz.prog gPr:=gput_ok (readP_ok programS programS_len program_ok) g0_ok
def topV:RR→AV
 | .bad a er=>.tup [.agg [.p .nils,intV 0],intV a,intV er]
 | .ok ns root _=>.tup [treeV ns root,intV 0,intV 0]
def cTop (S:Bs→RR):AC:=fun args K k=>∃ s,args=[.p (.str s)]∧s.length<1000000∧k (.ret (topV (S s))) K
theorem Program_ok:COk 43 (cTop proS):=by
 rintro args K k ⟨s,rfl,hs,hk⟩
 refine frame0P gPr_ok 19 rfl fun Q hr=>?_
 conv=>whnf
 refine⟨s,rfl,hs,?_⟩
 cases h:readS programS s with
 | bad a er =>
  rw [show proS s=_ from h] at hk
  conv=>whnf
  exact hr _ _ rfl hk
 | ok ns root mo =>
  rw [show proS s=_ from h] at hk
  conv=>whnf
  exact hr _ _ rfl hk
end Go.Proofs.YtojjkleplnijaaaGreatDoor
namespace Go.Ru
def smallS (m:Nat) (ns:List Nd):Bool:=decide (ns.length≤m)&&ns.all fun n=>decide (n.kids.length≤m)&&decide (n.tx.length≤200)
end Go.Ru
namespace Go.Proofs.YtojjkleplnijaaaGreatDoor
open Go.AE Go.Ru
set_option maxRecDepth 100000
set_option maxHeartbeats 1000000
theorem small_tame {m:Nat} {ns:List Nd} (hm:m<1000000) (h:smallS m ns=true):Tame ns:=by
 simp only [smallS,Bool.and_eq_true,decide_eq_true_eq,List.all_eq_true] at h
 refine⟨by omega,fun i=>?_⟩
 by_cases hi:i<ns.length
 ·have:=(h.2 ns[i] (List.getElem_mem hi)).2
  rw [List.getD_eq_getElem?_getD,List.getElem?_eq_getElem hi]
  simp only [Option.getD_some];omega
 ·rw [List.getD_eq_getElem?_getD,List.getElem?_eq_none (by omega)]
  exact Nat.lt_of_le_of_lt (Nat.zero_le _) (by decide:0<1000000)
def cSmall (m:Nat):AC:=fun args K k=>∃ ns root,args=[treeV ns root]∧k (.ret (.p (.bool (smallS m ns)))) K
def cShown7:AC:=fun args K k=>args=[]∧k (.ret (.p (.bool true))) K
def eSmall (m:Nat):AC:=fun args K k=>∃ ns root v,args=[treeV ns root]∧smallS m ns=v∧k (.ret (.p (.bool v))) K
def eCheck:AC:=fun args K k=>∃ ns root a e,args=[treeV ns root]∧Tame ns∧checkTree ns root=(a,e)∧k (.ret (.tup [intV a,intV e])) K
theorem eCheck_ok:COk 9 eCheck:=by
 rintro args K k ⟨ns,root,a,e,h1,h2,h3,h4⟩
 exact check_ok args K k ⟨ns,root,h1,h2,by rw [h3];exact h4⟩
def cRKids:AC:=fun args K k=>∃ kind l v,args=[intV kind,intsV l]∧List.length l<1000000∧kids4 kind l=v∧k (.ret (.p (.bool v))) K
def gQk:AG:=gput 198 (cKB stB) (gput 200 (cKB exB) (gput 199 cRAll4 (gput 197 cRises g0)))
theorem gQk_ok:GOk Tryz.prog gQk:=gput_ok rst_ok (gput_ok rex_ok (gput_ok rall4_ok (gput_ok rises_ok g0_ok)))
theorem rkids_ok:COk 152 cRKids:=by
 rintro args K k ⟨kind,l,v,rfl,hl,rfl,hk⟩
 refine frame0P gQk_ok 19 rfl fun Q hr=>?_
 by_cases h1:kind=1
 ·subst h1
  conv=>whnf
  refine⟨l,2,3,0,_,rfl,hl,rfl,?_⟩
  conv=>whnf
  exact hr _ _ rfl hk
 by_cases h3:kind=3
 ·subst h3
  conv=>whnf
  refine⟨l,4,5,6,_,rfl,hl,rfl,?_⟩
  conv=>whnf
  exact hr _ _ rfl hk
 by_cases h6:kind=6
 ·subst h6
  have hk:k (.ret (.p (.bool (l.all stB)))) K:=hk
  conv=>whnf
  refine loop_up (ι:=Nat) [1] (fun j=>[(5,intV j)]) (fun _=>[]) (fun j=>j≤l.length∧(l.drop j).all stB=l.all stB) (fun j=>l.length - j) 0 ⟨AV.le_refl _,trivial⟩ trivial ⟨Nat.zero_le _,by simp⟩ ?_
  rintro Y hle i ⟨hi,he⟩ ih
  conv=>whnf
  refine two_dec (fun h=>?_) (fun h=>?_)
  ·have h:i<l.length:=by have h:(i:Int)<(l.length:Int):=h;omega
   have h':(i:Int)<(l.length:Int):=by omega
   have hw1:=wzz (i:=i) (by omega)
   have e1:l.getD i 0=l[i]:=by simp [h]
   rw [List.drop_eq_getElem_cons h,List.all_cons,← e1] at he
   conv=>whnf
   refine⟨⟨by omega,h',rfl⟩,?_⟩
   conv=>whnf
   cases hx:stB (l.getD i 0) with
   | false =>
    rw [hx,Bool.false_and] at he
    refine⟨l.getD i 0,false,rfl,hx,?_⟩
    rw [← he] at hk
    conv=>whnf
    exact hr _ _ rfl hk
   | true =>
    rw [hx,Bool.true_and] at he
    refine⟨l.getD i 0,true,rfl,hx,?_⟩
    conv=>whnf
    refine hle _ _ (Le.env ?_ ?_) (ih (i+1) (by omega) ⟨by omega,he⟩)
    ·skip
     repeat' (first|exact trivial|((conv=>whnf);first|exact trivial|refine⟨AV.le_refl _,?_⟩|refine⟨ABlk.le_refl _,?_⟩|(refine⟨AV.le_of_eq ?_,?_⟩;focus ((first|exact congrArg intV hw1|fail);done))|(refine⟨ABlk.le_of_eq ?_,?_⟩;focus ((first|exact congrArg intV hw1|fail);done))|fail)|fail)
    ·skip
     repeat' (first|exact trivial|((conv=>whnf);first|exact trivial|refine⟨AV.le_refl _,?_⟩|refine⟨ABlk.le_refl _,?_⟩|fail)|fail)
  ·obtain rfl:i=l.length:=by have h:¬ (i:Int)<(l.length:Int):=h;omega
   rw [List.drop_length,List.all_nil] at he
   rw [← he] at hk
   conv=>whnf
   exact hr _ _ rfl hk
 by_cases ha:kind=7∨kind=15∨kind=17∨kind=23∨kind=26
 ·rcases ha with rfl|rfl|rfl|rfl|rfl
  all_goals
   conv=>whnf
   repeat' (first|((first|refine two_eq ?_ ?_|refine two_ne ?_ ?_|refine two_not ?_ ?_|refine two_dec ?_ ?_|refine two_intro ?_ ?_)<;>intro h<;>conv=>whnf)|((first|refine Chk.mk ?_ ?_|refine And.intro ?_ ?_);(focus (((repeat' (refine And.intro ?_ ?_))<;>(first|omega|rfl|(simp only [List.length_append,List.length_cons,List.length_nil];omega)|fail));done));conv=>whnf)|(refine⟨l,_,_,_,rfl,rfl,fun _ _=>rfl,hl,rfl,?_⟩;conv=>whnf)|(refine⟨l,_,_,_,_,rfl,hl,rfl,?_⟩;conv=>whnf)|(refine⟨_,_,rfl,rfl,?_⟩;conv=>whnf)|fail)
   all_goals refine hr _ _ rfl (ret_eq hk (congrArg (fun b=>AV.p (.bool b)) ?_))
   all_goals clear hr hk
   all_goals (try simp only [show Int.toNat 0=0 from rfl,show Int.toNat 1=1 from rfl,show Int.toNat 2=2 from rfl] at *)
   all_goals (first|(change (l.length==1&&l.all exB)=_;have e:(l.length==1)=true:=beq_iff_eq.2 (by omega);rw [e];first|rfl|((try generalize l.getD 0 0=x0 at *);(try generalize l.getD 1 0=x1 at *);(try generalize l.getD 2 0=x2 at *);simp [*];done))|(change (l.length==1&&l.all exB)=_;have e:(l.length==1)=false:=beq_eq_false_iff_ne.2 (by omega);rw [e];rfl)|(change (l.length==1&&l.all exB)=_;rw [decide_eq_true (by omega:l.length≤1)];rfl)|(change (l.length==1&&l.all exB)=_;rw [decide_eq_false (by omega:¬ l.length≤1)];rfl)|skip)
 have h7:kind≠7:=fun e=>ha (.inl e)
 have h15:kind≠15:=fun e=>ha (.inr (.inl e))
 have h17:kind≠17:=fun e=>ha (.inr (.inr (.inl e)))
 have h23:kind≠23:=fun e=>ha (.inr (.inr (.inr (.inl e))))
 have h26:kind≠26:=fun e=>ha (.inr (.inr (.inr (.inr e))))
 clear ha
 by_cases ha:kind=8∨kind=27
 ·rcases ha with rfl|rfl
  all_goals
   conv=>whnf
   repeat' (first|((first|refine two_eq ?_ ?_|refine two_ne ?_ ?_|refine two_not ?_ ?_|refine two_dec ?_ ?_|refine two_intro ?_ ?_)<;>intro h<;>conv=>whnf)|((first|refine Chk.mk ?_ ?_|refine And.intro ?_ ?_);(focus (((repeat' (refine And.intro ?_ ?_))<;>(first|omega|rfl|(simp only [List.length_append,List.length_cons,List.length_nil];omega)|fail));done));conv=>whnf)|(refine⟨l,_,_,_,rfl,rfl,fun _ _=>rfl,hl,rfl,?_⟩;conv=>whnf)|(refine⟨l,_,_,_,_,rfl,hl,rfl,?_⟩;conv=>whnf)|(refine⟨_,_,rfl,rfl,?_⟩;conv=>whnf)|fail)
   all_goals refine hr _ _ rfl (ret_eq hk (congrArg (fun b=>AV.p (.bool b)) ?_))
   all_goals clear hr hk
   all_goals (try simp only [show Int.toNat 0=0 from rfl,show Int.toNat 1=1 from rfl,show Int.toNat 2=2 from rfl] at *)
   all_goals (first|(change (l.length==2&&l.all exB)=_;have e:(l.length==2)=true:=beq_iff_eq.2 (by omega);rw [e];first|rfl|((try generalize l.getD 0 0=x0 at *);(try generalize l.getD 1 0=x1 at *);(try generalize l.getD 2 0=x2 at *);simp [*];done))|(change (l.length==2&&l.all exB)=_;have e:(l.length==2)=false:=beq_eq_false_iff_ne.2 (by omega);rw [e];rfl)|(change (l.length==2&&l.all exB)=_;rw [decide_eq_true (by omega:l.length≤1)];rfl)|(change (l.length==2&&l.all exB)=_;rw [decide_eq_false (by omega:¬ l.length≤1)];rfl)|skip)
 have h8:kind≠8:=fun e=>ha (.inl e)
 have h27:kind≠27:=fun e=>ha (.inr e)
 clear ha
 by_cases h9:kind=9
 ·subst h9
  conv=>whnf
  repeat' (first|((first|refine two_eq ?_ ?_|refine two_ne ?_ ?_|refine two_not ?_ ?_|refine two_dec ?_ ?_|refine two_intro ?_ ?_)<;>intro h<;>conv=>whnf)|((first|refine Chk.mk ?_ ?_|refine And.intro ?_ ?_);(focus (((repeat' (refine And.intro ?_ ?_))<;>(first|omega|rfl|(simp only [List.length_append,List.length_cons,List.length_nil];omega)|fail));done));conv=>whnf)|(refine⟨l,_,_,_,rfl,rfl,fun _ _=>rfl,hl,rfl,?_⟩;conv=>whnf)|(refine⟨l,_,_,_,_,rfl,hl,rfl,?_⟩;conv=>whnf)|(refine⟨_,_,rfl,rfl,?_⟩;conv=>whnf)|fail)
  all_goals refine hr _ _ rfl (ret_eq hk (congrArg (fun b=>AV.p (.bool b)) ?_))
  all_goals clear hr hk
  all_goals (try simp only [show Int.toNat 0=0 from rfl,show Int.toNat 1=1 from rfl,show Int.toNat 2=2 from rfl] at *)
  all_goals (first|(change (l.length==1&&l.getD 0 0==18)=_;have e:(l.length==1)=true:=beq_iff_eq.2 (by omega);rw [e];first|rfl|((try generalize l.getD 0 0=x0 at *);(try generalize l.getD 1 0=x1 at *);(try generalize l.getD 2 0=x2 at *);simp [*];done))|(change (l.length==1&&l.getD 0 0==18)=_;have e:(l.length==1)=false:=beq_eq_false_iff_ne.2 (by omega);rw [e];rfl)|(change (l.length==1&&l.getD 0 0==18)=_;rw [decide_eq_true (by omega:l.length≤1)];rfl)|(change (l.length==1&&l.getD 0 0==18)=_;rw [decide_eq_false (by omega:¬ l.length≤1)];rfl)|skip)
 by_cases h10:kind=10
 ·subst h10
  conv=>whnf
  repeat' (first|((first|refine two_eq ?_ ?_|refine two_ne ?_ ?_|refine two_not ?_ ?_|refine two_dec ?_ ?_|refine two_intro ?_ ?_)<;>intro h<;>conv=>whnf)|((first|refine Chk.mk ?_ ?_|refine And.intro ?_ ?_);(focus (((repeat' (refine And.intro ?_ ?_))<;>(first|omega|rfl|(simp only [List.length_append,List.length_cons,List.length_nil];omega)|fail));done));conv=>whnf)|(refine⟨l,_,_,_,rfl,rfl,fun _ _=>rfl,hl,rfl,?_⟩;conv=>whnf)|(refine⟨l,_,_,_,_,rfl,hl,rfl,?_⟩;conv=>whnf)|(refine⟨_,_,rfl,rfl,?_⟩;conv=>whnf)|fail)
  all_goals refine hr _ _ rfl (ret_eq hk (congrArg (fun b=>AV.p (.bool b)) ?_))
  all_goals clear hr hk
  all_goals (try simp only [show Int.toNat 0=0 from rfl,show Int.toNat 1=1 from rfl,show Int.toNat 2=2 from rfl] at *)
  all_goals (first|(change (l.length==2&&l.getD 0 0==18&&exB (l.getD 1 0))=_;have e:(l.length==2)=true:=beq_iff_eq.2 (by omega);rw [e];first|rfl|((try generalize l.getD 0 0=x0 at *);(try generalize l.getD 1 0=x1 at *);(try generalize l.getD 2 0=x2 at *);simp [*];done))|(change (l.length==2&&l.getD 0 0==18&&exB (l.getD 1 0))=_;have e:(l.length==2)=false:=beq_eq_false_iff_ne.2 (by omega);rw [e];rfl)|(change (l.length==2&&l.getD 0 0==18&&exB (l.getD 1 0))=_;rw [decide_eq_true (by omega:l.length≤1)];rfl)|(change (l.length==2&&l.getD 0 0==18&&exB (l.getD 1 0))=_;rw [decide_eq_false (by omega:¬ l.length≤1)];rfl)|skip)
 by_cases h11:kind=11
 ·subst h11
  conv=>whnf
  repeat' (first|((first|refine two_eq ?_ ?_|refine two_ne ?_ ?_|refine two_not ?_ ?_|refine two_dec ?_ ?_|refine two_intro ?_ ?_)<;>intro h<;>conv=>whnf)|((first|refine Chk.mk ?_ ?_|refine And.intro ?_ ?_);(focus (((repeat' (refine And.intro ?_ ?_))<;>(first|omega|rfl|(simp only [List.length_append,List.length_cons,List.length_nil];omega)|fail));done));conv=>whnf)|(refine⟨l,_,_,_,rfl,rfl,fun _ _=>rfl,hl,rfl,?_⟩;conv=>whnf)|(refine⟨l,_,_,_,_,rfl,hl,rfl,?_⟩;conv=>whnf)|(refine⟨_,_,rfl,rfl,?_⟩;conv=>whnf)|fail)
  all_goals refine hr _ _ rfl (ret_eq hk (congrArg (fun b=>AV.p (.bool b)) ?_))
  all_goals clear hr hk
  all_goals (try simp only [show Int.toNat 0=0 from rfl,show Int.toNat 1=1 from rfl,show Int.toNat 2=2 from rfl] at *)
  all_goals (first|(change (l.length==3&&exB (l.getD 0 0)&&l.getD 1 0==6&&l.getD 2 0==6)=_;have e:(l.length==3)=true:=beq_iff_eq.2 (by omega);rw [e];first|rfl|((try generalize l.getD 0 0=x0 at *);(try generalize l.getD 1 0=x1 at *);(try generalize l.getD 2 0=x2 at *);simp [*];done))|(change (l.length==3&&exB (l.getD 0 0)&&l.getD 1 0==6&&l.getD 2 0==6)=_;have e:(l.length==3)=false:=beq_eq_false_iff_ne.2 (by omega);rw [e];rfl)|(change (l.length==3&&exB (l.getD 0 0)&&l.getD 1 0==6&&l.getD 2 0==6)=_;rw [decide_eq_true (by omega:l.length≤1)];rfl)|(change (l.length==3&&exB (l.getD 0 0)&&l.getD 1 0==6&&l.getD 2 0==6)=_;rw [decide_eq_false (by omega:¬ l.length≤1)];rfl)|skip)
 by_cases h12:kind=12
 ·subst h12
  conv=>whnf
  repeat' (first|((first|refine two_eq ?_ ?_|refine two_ne ?_ ?_|refine two_not ?_ ?_|refine two_dec ?_ ?_|refine two_intro ?_ ?_)<;>intro h<;>conv=>whnf)|((first|refine Chk.mk ?_ ?_|refine And.intro ?_ ?_);(focus (((repeat' (refine And.intro ?_ ?_))<;>(first|omega|rfl|(simp only [List.length_append,List.length_cons,List.length_nil];omega)|fail));done));conv=>whnf)|(refine⟨l,_,_,_,rfl,rfl,fun _ _=>rfl,hl,rfl,?_⟩;conv=>whnf)|(refine⟨l,_,_,_,_,rfl,hl,rfl,?_⟩;conv=>whnf)|(refine⟨_,_,rfl,rfl,?_⟩;conv=>whnf)|fail)
  all_goals refine hr _ _ rfl (ret_eq hk (congrArg (fun b=>AV.p (.bool b)) ?_))
  all_goals clear hr hk
  all_goals (try simp only [show Int.toNat 0=0 from rfl,show Int.toNat 1=1 from rfl,show Int.toNat 2=2 from rfl] at *)
  all_goals (first|(change (l.length==2&&exB (l.getD 0 0)&&l.getD 1 0==6)=_;have e:(l.length==2)=true:=beq_iff_eq.2 (by omega);rw [e];first|rfl|((try generalize l.getD 0 0=x0 at *);(try generalize l.getD 1 0=x1 at *);(try generalize l.getD 2 0=x2 at *);simp [*];done))|(change (l.length==2&&exB (l.getD 0 0)&&l.getD 1 0==6)=_;have e:(l.length==2)=false:=beq_eq_false_iff_ne.2 (by omega);rw [e];rfl)|(change (l.length==2&&exB (l.getD 0 0)&&l.getD 1 0==6)=_;rw [decide_eq_true (by omega:l.length≤1)];rfl)|(change (l.length==2&&exB (l.getD 0 0)&&l.getD 1 0==6)=_;rw [decide_eq_false (by omega:¬ l.length≤1)];rfl)|skip)
 by_cases h14:kind=14
 ·subst h14
  conv=>whnf
  repeat' (first|((first|refine two_eq ?_ ?_|refine two_ne ?_ ?_|refine two_not ?_ ?_|refine two_dec ?_ ?_|refine two_intro ?_ ?_)<;>intro h<;>conv=>whnf)|((first|refine Chk.mk ?_ ?_|refine And.intro ?_ ?_);(focus (((repeat' (refine And.intro ?_ ?_))<;>(first|omega|rfl|(simp only [List.length_append,List.length_cons,List.length_nil];omega)|fail));done));conv=>whnf)|(refine⟨l,_,_,_,rfl,rfl,fun _ _=>rfl,hl,rfl,?_⟩;conv=>whnf)|(refine⟨l,_,_,_,_,rfl,hl,rfl,?_⟩;conv=>whnf)|(refine⟨_,_,rfl,rfl,?_⟩;conv=>whnf)|fail)
  all_goals refine hr _ _ rfl (ret_eq hk (congrArg (fun b=>AV.p (.bool b)) ?_))
  all_goals clear hr hk
  all_goals (try simp only [show Int.toNat 0=0 from rfl,show Int.toNat 1=1 from rfl,show Int.toNat 2=2 from rfl] at *)
  all_goals (first|(change (decide (l.length≤1)&&l.all exB)=_;have e:(l.length==1)=true:=beq_iff_eq.2 (by omega);rw [e];first|rfl|((try generalize l.getD 0 0=x0 at *);(try generalize l.getD 1 0=x1 at *);(try generalize l.getD 2 0=x2 at *);simp [*];done))|(change (decide (l.length≤1)&&l.all exB)=_;have e:(l.length==1)=false:=beq_eq_false_iff_ne.2 (by omega);rw [e];rfl)|(change (decide (l.length≤1)&&l.all exB)=_;rw [decide_eq_true (by omega:l.length≤1)];rfl)|(change (decide (l.length≤1)&&l.all exB)=_;rw [decide_eq_false (by omega:¬ l.length≤1)];rfl)|skip)
 by_cases h16:kind=16
 ·subst h16
  conv=>whnf
  repeat' (first|((first|refine two_eq ?_ ?_|refine two_ne ?_ ?_|refine two_not ?_ ?_|refine two_dec ?_ ?_|refine two_intro ?_ ?_)<;>intro h<;>conv=>whnf)|((first|refine Chk.mk ?_ ?_|refine And.intro ?_ ?_);(focus (((repeat' (refine And.intro ?_ ?_))<;>(first|omega|rfl|(simp only [List.length_append,List.length_cons,List.length_nil];omega)|fail));done));conv=>whnf)|(refine⟨l,_,_,_,rfl,rfl,fun _ _=>rfl,hl,rfl,?_⟩;conv=>whnf)|(refine⟨l,_,_,_,_,rfl,hl,rfl,?_⟩;conv=>whnf)|(refine⟨_,_,rfl,rfl,?_⟩;conv=>whnf)|fail)
  all_goals refine hr _ _ rfl (ret_eq hk (congrArg (fun b=>AV.p (.bool b)) ?_))
  all_goals clear hr hk
  all_goals (try simp only [show Int.toNat 0=0 from rfl,show Int.toNat 1=1 from rfl,show Int.toNat 2=2 from rfl] at *)
  all_goals (first|(change (l.length==2&&l.getD 0 0==6&&l.getD 1 0==6)=_;have e:(l.length==2)=true:=beq_iff_eq.2 (by omega);rw [e];first|rfl|((try generalize l.getD 0 0=x0 at *);(try generalize l.getD 1 0=x1 at *);(try generalize l.getD 2 0=x2 at *);simp [*];done))|(change (l.length==2&&l.getD 0 0==6&&l.getD 1 0==6)=_;have e:(l.length==2)=false:=beq_eq_false_iff_ne.2 (by omega);rw [e];rfl)|(change (l.length==2&&l.getD 0 0==6&&l.getD 1 0==6)=_;rw [decide_eq_true (by omega:l.length≤1)];rfl)|(change (l.length==2&&l.getD 0 0==6&&l.getD 1 0==6)=_;rw [decide_eq_false (by omega:¬ l.length≤1)];rfl)|skip)
 by_cases h13:kind=13
 ·subst h13
  have hk:k (.ret (.p (.bool (decide (1≤l.length)&&l.getD 0 0==19&&l.tail.all exB)))) K:=hk
  conv=>whnf
  refine two_dec (fun h=>?_) (fun h=>?_)
  ·have h:1≤l.length:=by have h:(l.length:Int)≥1:=h;omega
   rw [decide_eq_true h,Bool.true_and] at hk
   conv=>whnf
   refine⟨⟨by omega,by omega,rfl⟩,?_⟩
   conv=>whnf
   refine two_eq (fun h2=>?_) (fun h2=>?_)
   ·have h2:l.getD 0 0=19:=h2
    rw [beq_iff_eq.2 h2,Bool.true_and] at hk
    conv=>whnf
    refine⟨⟨by omega,by first|exact Int.le_refl _|omega,by first|exact Int.le_refl _|omega,rfl⟩,?_⟩
    conv=>whnf
    refine⟨l.tail,_,_,_,rfl,by rw [List.length_tail];simp only [Int.ofNat_eq_natCast];omega,fun i hi=>?_,by rw [List.length_tail];omega,rfl,?_⟩
    ·cases l with
     | nil=>rfl
     | cons a r=>rfl
    conv=>whnf
    exact hr _ _ rfl hk
   ·have h2:l.getD 0 0≠19:=h2
    rw [beq_eq_false_iff_ne.2 h2] at hk
    conv=>whnf
    exact hr _ _ rfl hk
  ·have h:¬ 1≤l.length:=by have h:¬ (l.length:Int)≥1:=h;omega
   rw [decide_eq_false h] at hk
   conv=>whnf
   exact hr _ _ rfl hk
 have hk:k (.ret (.p (.bool (l.length==0)))) K:=by
  have e:kids4 kind l=(l.length==0):=by simp [kids4,h1,h3,h6,h7,h15,h17,h23,h26,h8,h27,h9,h10,h11,h12,h14,h16,h13]
  rw [e] at hk;exact hk
 conv=>whnf
 repeat' (first|(refine two_eq (fun h=>absurd h (by assumption)) (fun _=>?_);conv=>whnf)|fail)
 exact hr _ _ rfl (ret_eq hk (congrArg (fun b=>AV.p (.bool b)) (by rw [Bool.eq_iff_iff];simp)))
def cRKidsL:AC:=fun args K k=>∃ kind l r n f ty v,args=[intV kind,.slr r 0 0 n]∧nth K r=some (.arr ty 1 0 n f)∧n=List.length l∧(∀ i,i<n→f i=pvs (kidF l i))∧List.length l<1000000∧kids4 kind l=v∧k (.ret (.p (.bool v))) (setN K r .dead)
theorem rkidsL_ok:COk 152 cRKidsL:=by
 rintro args K k ⟨kind,l,r,n,f,ty,v,rfl,hn,rfl,hf,hl,rfl,hk⟩
 refine (rkids_ok [intV kind,intsV l] (setN K r .dead) k ⟨kind,l,_,rfl,hl,rfl,hk⟩).pre fun w m Args hS hV=>?_
 obtain⟨m',h3,h4,h5⟩:=freeze_sl hS hn (kidF l) hf
 refine⟨m',h3,h4,hV.1,fun i hi hi'=>?_⟩
 rcases i with _|_|i
 ·exact (hV.2 0 hi hi').mono h3
 ·exact h5 _ (hV.2 1 hi hi')
 ·simp at hi;omega
def gQs:AG:=gput 150 cRTx4 (gput 151 cRNum4 (gput 152 cRKidsL g0))
theorem gQs_ok:GOk Tryz.prog gQs:=gput_ok rtexts_ok (gput_ok rnumbers_ok (gput_ok rkidsL_ok g0_ok))
def cRShaped:AC:=fun args K k=>∃ ns root v,args=[treeV ns root]∧Tame ns∧soundS ns root=true∧List.all ns (nodeOkS ns)=v∧k (.ret (.p (.bool v))) K
def tbx (ns:List Nd) (root:Int):ABlk:=.box 24 [.p (.sl 5 ns.length (nodeF ns)),.p (.int .i64 root)]
def nbx (n:Nd):ABlk:=.box 61 [.p (.int .i64 n.k),.p (.int .i64 n.n),.p (.int .i64 n.at_),.p (.str n.tx),.p (.sl 1 n.kids.length (kidF n.kids))]
theorem rshaped_ok:COk 106 cRShaped:=by
 rintro args K k ⟨ns,root,v,rfl,ta,hs,rfl,hk⟩
 have st:=std_of hs
 have hlen:=st.len
 refine frame0P gQs_ok 19 rfl fun Q hr=>?_
 conv=>whnf
 refine loop_up (ι:=Nat) [1] (fun j=>[(3,intV j)]) (fun _=>[]) (fun j=>j≤ns.length∧(ns.drop j).all (nodeOkS ns)=ns.all (nodeOkS ns)) (fun j=>ns.length - j) 0 ⟨AV.le_refl _,trivial⟩ trivial ⟨Nat.zero_le _,by simp⟩ ?_
 rintro Y hle i ⟨hi,he⟩ ih
 conv=>whnf
 refine two_dec (fun h=>?_) (fun h=>?_)
 ·have h:i<ns.length:=by have h:(i:Int)<(ns.length:Int):=h;omega
  have hw1:=wzz (i:=i) (by omega)
  have hkm:=st.many i h
  have hkk:=st.kid i h
  have htx:=ta.tx i
  have e1:ns[i]=nd ns i:=by simp [nd,h]
  rw [List.drop_eq_getElem_cons h,List.all_cons,e1,← node4_eq (by omega)] at he
  have hkl:(kindsS ns (nd ns i)).length=(nd ns i).kids.length:=kinds_len ns (nd ns i)
  conv=>whnf
  refine⟨⟨by omega,by omega,rfl⟩,?_⟩
  conv=>whnf
  refine loop_nil (ι:=Nat) 3 1 (fun i=>pvs (kidF [] i)) (fun j=>⟨[(1,.ptr 0 0 1 0 0),(3,intV i),(4,.ptr 1 0 1 0 0),(5,.slr 2 0 0 ((kindsS ns (nd ns i)).take j).length),(6,intV j)],[tbx ns root,nbx (nd ns i),kiB ((kindsS ns (nd ns i)).take j)]⟩)
   (fun j=>j≤(nd ns i).kids.length) (fun j=>(nd ns i).kids.length - j) 0 [tbx ns root,nbx (nd ns i)]
   rfl ⟨.inl (AV.le_refl _),.inl (AV.le_refl _),.inl (AV.le_refl _),.inr ⟨rfl,rfl⟩,.inl (AV.le_refl _),trivial⟩ ⟨.inl (ABlk.le_refl _),.inl (ABlk.le_refl _),trivial⟩ rfl (Nat.zero_le _) ?_
  rintro Z hlz j hj ihz
  conv=>whnf
  refine two_dec (fun h2=>?_) (fun h2=>?_)
  ·have h2:j<(nd ns i).kids.length:=by have h2:(j:Int)<((nd ns i).kids.length:Int):=h2;omega
   have h2':(j:Int)<((nd ns i).kids.length:Int):=by omega
   have hw2:=wzz (i:=j) (by omega)
   have hm:=hkk _ (getD_mem h2)
   have hml:(nd ns i).kids.getD j 0<(ns.length:Int):=by omega
   have htk:(kindsS ns (nd ns i)).take (j+1)=(kindsS ns (nd ns i)).take j++[(nd ns ((nd ns i).kids.getD j 0).toNat).k]:=by
    rw [List.take_add_one,kinds_get h2];rfl
   have htl:((kindsS ns (nd ns i)).take j).length=j:=by rw [List.length_take,hkl];omega
   generalize (kindsS ns (nd ns i)).take j=L at htk htl ⊢
   conv=>whnf
   refine⟨⟨by omega,h2',rfl⟩,?_⟩
   conv=>whnf
   refine⟨⟨hm.1,hml,rfl⟩,?_⟩
   conv=>whnf
   refine⟨⟨rfl,rfl,rfl,allLt_ok ⟨trivial,rfl⟩⟩,?_⟩
   conv=>whnf
   refine⟨⟨rfl,rfl,rfl,rfl,?_,?_⟩,?_⟩
   ·show (L.length+1)*8≤140737488355328
    omega
   ·show L.length+1≤9223372036854775807
    omega
   conv=>whnf
   refine hlz _ _ (Le.cutEnv 3 rfl rfl ⟨rfl,rfl,kiB_cl L _ _ 3 rfl,trivial⟩ ?_ ?_) (ihz (j+1) (by omega) h2)
   ·skip
    repeat' (first|exact trivial|((conv=>whnf);first|exact trivial|refine⟨AV.le_refl _,?_⟩|refine⟨ABlk.le_refl _,?_⟩|(refine⟨AV.le_of_eq ?_,?_⟩;focus ((first|exact congrArg intV hw2|exact congrArg (fun n=>AV.slr 2 0 0 n) (by rw [htk];simp)|fail);done))|(refine⟨ABlk.le_of_eq ?_,?_⟩;focus ((first|exact congrArg intV hw2|exact congrArg (fun n=>AV.slr 2 0 0 n) (by rw [htk];simp)|fail);done))|fail)|fail)
   ·(conv=>whnf)
    refine⟨ABlk.le_refl _,?_⟩
    (conv=>whnf)
    refine⟨ABlk.le_refl _,?_⟩
    (conv=>whnf)
    rw [htk]
    refine⟨kiB_snoc L _ _ rfl,?_⟩
    trivial
  ·obtain rfl:j=(nd ns i).kids.length:=by have h2:¬ (j:Int)<((nd ns i).kids.length:Int):=h2;omega
   have htk:(kindsS ns (nd ns i)).take (nd ns i).kids.length=kindsS ns (nd ns i):=List.take_of_length_le (by omega)
   rw [htk]
   obtain⟨b1,hb1⟩:∃ b,text4 (nd ns i).k (nd ns i).tx=b:=⟨_,rfl⟩
   obtain⟨b2,hb2⟩:∃ b,numberS (nd ns i).k (nd ns i).n=b:=⟨_,rfl⟩
   obtain⟨b3,hb3⟩:∃ b,kids4 (nd ns i).k (kindsS ns (nd ns i))=b:=⟨_,rfl⟩
   have hnode:node4 ns (nd ns i)=!(decide ((nd ns i).k<1) || (decide ((nd ns i).k>27) || (!b1 || (!b2 || !b3)))):=by rw [node4,hb1,hb2,hb3]
   conv=>whnf
   refine⟨nd ns i,b1,rfl,htx,hb1,?_⟩
   conv=>whnf
   refine⟨nd ns i,b2,rfl,hb2,?_⟩
   conv=>whnf
   refine⟨(nd ns i).k,kindsS ns (nd ns i),2,(kindsS ns (nd ns i)).length,_,_,b3,rfl,rfl,rfl,fun _ _=>rfl,by omega,hb3,?_⟩
   conv=>whnf
   refine two_dec (fun h3=>?_) (fun h3=>?_)
   ·have hf:node4 ns (nd ns i)=false:=by rw [hnode,decide_eq_true (show (nd ns i).k<1 from h3)];rfl
    rw [hf,Bool.false_and] at he
    rw [← he] at hk
    conv=>whnf
    exact hr _ _ rfl hk
   rw [decide_eq_false (show ¬ (nd ns i).k<1 from h3),Bool.false_or] at hnode
   conv=>whnf
   refine two_dec (fun h4=>?_) (fun h4=>?_)
   ·have hf:node4 ns (nd ns i)=false:=by rw [hnode,decide_eq_true (show (nd ns i).k>27 from h4)];rfl
    rw [hf,Bool.false_and] at he
    rw [← he] at hk
    conv=>whnf
    exact hr _ _ rfl hk
   rw [decide_eq_false (show ¬ (nd ns i).k>27 from h4),Bool.false_or] at hnode
   clear hb1 hb2 hb3
   cases b1 with
   | false =>
    have hf:node4 ns (nd ns i)=false:=hnode
    rw [hf,Bool.false_and] at he
    rw [← he] at hk
    conv=>whnf
    exact hr _ _ rfl hk
   | true =>
   cases b2 with
   | false =>
    have hf:node4 ns (nd ns i)=false:=hnode
    rw [hf,Bool.false_and] at he
    rw [← he] at hk
    conv=>whnf
    exact hr _ _ rfl hk
   | true =>
   cases b3 with
   | false =>
    have hf:node4 ns (nd ns i)=false:=hnode
    rw [hf,Bool.false_and] at he
    rw [← he] at hk
    conv=>whnf
    exact hr _ _ rfl hk
   | true =>
    have hf:node4 ns (nd ns i)=true:=hnode
    rw [hf,Bool.true_and] at he
    conv=>whnf
    refine hle _ _ (Le.cutEnv 1 rfl rfl ⟨rfl,trivial⟩ ?_ ?_) (ih (i+1) (by omega) ⟨by omega,he⟩)
    ·skip
     repeat' (first|exact trivial|((conv=>whnf);first|exact trivial|refine⟨AV.le_refl _,?_⟩|refine⟨ABlk.le_refl _,?_⟩|(refine⟨AV.le_of_eq ?_,?_⟩;focus ((first|exact congrArg intV hw1|fail);done))|(refine⟨ABlk.le_of_eq ?_,?_⟩;focus ((first|exact congrArg intV hw1|fail);done))|fail)|fail)
    ·skip
     repeat' (first|exact trivial|((conv=>whnf);first|exact trivial|refine⟨AV.le_refl _,?_⟩|refine⟨ABlk.le_refl _,?_⟩|fail)|fail)
 ·obtain rfl:i=ns.length:=by have h:¬ (i:Int)<(ns.length:Int):=h;omega
  rw [List.drop_length,List.all_nil] at he
  rw [← he] at hk
  conv=>whnf
  exact hr _ _ rfl hk
def cRRight:AC:=fun args K k=>∃ ns root v,args=[treeV ns root]∧Kt ns∧Tame ns∧rightS ns root=v∧k (.ret (.p (.bool v))) K
theorem rright_ok:COk 49 cRRight:=by
 rintro args K k ⟨ns,root,v,rfl,kt,ta,rfl,hk⟩
 refine frame0P (gput_ok rsound_ok (gput_ok rdepth_ok (gput_ok rshaped_ok g0_ok))) 19 rfl fun Q hr=>?_
 cases hs:soundS ns root with
 | false =>
  have hk:k (.ret (.p (.bool false))) K:=by rw [rightS,hs] at hk;exact hk
  conv=>whnf
  refine⟨ns,root,_,rfl,kt,hs,?_⟩
  conv=>whnf
  exact hr _ _ rfl hk
 | true =>
  have st:=std_of hs
  have hlen:=st.len
  have hpos:=st.pos
  have hrt:=st.rt
  have hk:k (.ret (.p (.bool (decide (depthS ns root≤40)&&((nd ns root.toNat).k==1)&&ns.all (nodeOkS ns))))) K:=by rw [rightS,hs] at hk;exact hk
  conv=>whnf
  refine⟨ns,root,_,rfl,kt,hs,?_⟩
  conv=>whnf
  refine⟨ns,root,rfl,kt,hs,?_⟩
  conv=>whnf
  refine two_dec (fun h=>?_) (fun h=>?_)
  ·have h:¬ depthS ns root≤40:=by have h:(depthS ns root:Int)>40:=h;omega
   rw [decide_eq_false h] at hk
   conv=>whnf
   exact hr _ _ rfl hk
  have h:depthS ns root≤40:=by have h:¬ (depthS ns root:Int)>40:=h;omega
  rw [decide_eq_true h,Bool.true_and] at hk
  conv=>whnf
  refine⟨⟨by omega,by omega,rfl⟩,?_⟩
  conv=>whnf
  refine two_ne (fun h2=>?_) (fun h2=>?_)
  ·have h2:(nd ns root.toNat).k≠1:=h2
   rw [beq_eq_false_iff_ne.2 h2,Bool.false_and] at hk
   conv=>whnf
   exact hr _ _ rfl hk
  have h2:(nd ns root.toNat).k=1:=h2
  rw [beq_iff_eq.2 h2,Bool.true_and] at hk
  conv=>whnf
  refine⟨ns,root,_,rfl,ta,hs,rfl,?_⟩
  conv=>whnf
  exact hr _ _ rfl hk
end Go.Proofs.YtojjkleplnijaaaGreatDoor
namespace Go.Ru
theorem kidsS_pr {out:List Nat} (ho:szOk out):∀ (l:List Int) (last:Int) (size:Nat) (c:Nat),last<out.length→kidsS out l last size=some c→l.Pairwise (fun a c=>c<a):=by
 intro l
 induction l with
 | nil=>intro _ _ _ _ _;exact List.Pairwise.nil
 | cons k r ih =>
  intro last size c h1 h
  simp only [kidsS] at h
  split at h
  case h_2=>simp at h
  rename_i hb
  simp only [Bool.and_eq_true,beq_iff_eq,decide_eq_true_eq] at hb
  obtain⟨rfl,hk⟩:=hb
  have:=ho k.toNat (by omega)
  refine List.pairwise_cons.2 ⟨fun x hx=>?_,ih _ _ c (by omega) h⟩
  have:=kidsS_mem ho r _ _ c (by omega) h x hx
  omega
theorem kids_rise {ns:List Nd} {root:Int} (h:soundS ns root=true) {j:Nat} (hj:j<ns.length):(nd ns j).kids.Pairwise (·<·):=by
 simp only [soundS,Bool.and_eq_true] at h
 obtain⟨_,h4⟩:=h
 split at h4
 case h_2=>simp at h4
 rename_i l hl
 obtain⟨hlen,hok,_⟩:=sizesS_inv ns [] l (fun i hi=>by simp at hi) hl
 obtain⟨_,he⟩:=sizesS_each ns [] l hl
 simp only [List.length_nil,Nat.zero_add] at hlen he
 have hlt:(l.take j).length=j:=by rw [List.length_take];omega
 refine List.pairwise_reverse.1 (kidsS_pr (out:=l.take j) (fun i hi=>?_) _ _ _ _ (by rw [hlt];omega) (he j hj))
 rw [hlt] at hi
 have:=hok i (by omega)
 rw [List.getD_eq_getElem?_getD,List.getElem?_take,if_pos hi,← List.getD_eq_getElem?_getD]
 exact this
def ofB (ns:List Nd) (a b:Int) (name:Bs) (q:Int):Bool:=((nd ns q.toNat).k==a || (nd ns q.toNat).k==b)&&(nd ns q.toNat).tx==name
def ofF (ns:List Nd) (a b:Int) (name:Bs):List Int→Int
 | []=>-1
 | q::l=>match ofB ns a b name q with
  | true=>q
  | false=>ofF ns a b name l
def ofS (ns:List Nd) (p:Nat) (a b:Int) (name:Bs):Int:=ofF ns a b name (nd ns p).kids
theorem ofF_spec {ns:List Nd} {a b:Int} {name:Bs}:∀ {l:List Int},l.Pairwise (·<·) →
  (ofF ns a b name l=-1∧∀ q∈l,ofB ns a b name q=false)∨(ofF ns a b name l∈l∧ofB ns a b name (ofF ns a b name l)=true∧∀ q∈l,ofB ns a b name q=true→ofF ns a b name l≤q):=by
 intro l
 induction l with
 | nil=>intro _;exact .inl ⟨rfl,fun q h=>by simp at h⟩
 | cons x l ih =>
  intro h
  obtain⟨h1,h2⟩:=List.pairwise_cons.1 h
  cases hx:ofB ns a b name x with
  | true =>
   have e:ofF ns a b name (x::l)=x:=by simp [ofF,hx]
   rw [e]
   refine .inr ⟨List.mem_cons_self ..,hx,fun q hq _=>?_⟩
   rcases List.mem_cons.1 hq with rfl|hq
   ·exact Int.le_refl _
   ·exact Int.le_of_lt (h1 q hq)
  | false =>
   have e:ofF ns a b name (x::l)=ofF ns a b name l:=by simp [ofF,hx]
   rw [e]
   rcases ih h2 with ⟨g1,g2⟩|⟨g1,g2,g3⟩
   ·refine .inl ⟨g1,fun q hq=>?_⟩
    rcases List.mem_cons.1 hq with rfl|hq
    ·exact hx
    ·exact g2 q hq
   ·refine .inr ⟨List.mem_cons_of_mem _ g1,g2,fun q hq hb=>?_⟩
    rcases List.mem_cons.1 hq with rfl|hq
    ·rw [hx] at hb;cases hb
    ·exact g3 q hq hb
theorem ofF_nat {ns:List Nd} {a b:Int} {name:Bs} {P:Nat→Bool} {n:Nat} {l:List Int} (h:l.Pairwise (·<·)) (hr:∀ q∈l,0≤q∧q<(n:Int))
  (hp:∀ i:Nat,i<n→(P i=true↔((i:Int)∈l∧ofB ns a b name (i:Int)=true))):ofF ns a b name l=natO (firstB P n):=by
 rcases ofF_spec (ns:=ns) (a:=a) (b:=b) (name:=name) h with ⟨h1,h2⟩|⟨h1,h2,h3⟩
 ·rw [h1]
  cases hf:firstB P n with
  | none=>rfl
  | some j =>
   obtain⟨g1,g2,_⟩:=firstB_some hf
   have:=(hp j g1).1 g2
   rw [h2 _ this.1] at this
   exact absurd this.2 (by simp)
 ·generalize hq:ofF ns a b name l=q at h1 h2 h3
  obtain⟨r1,r2⟩:=hr q h1
  obtain⟨i,rfl⟩:∃ i:Nat,q=(i:Int):=⟨q.toNat,by omega⟩
  have hi:i<n:=by omega
  rw [firstB_eq hi ((hp i hi).2 ⟨h1,h2⟩) fun j hj=>?_]
  ·rfl
  cases hpj:P j with
  | false=>rfl
  | true =>
   obtain⟨g1,g2⟩:=(hp j (by omega)).1 hpj
   have:=h3 _ g1 g2
   omega
theorem dec_ne {j i:Nat} (h:j≤i):decide ((j:Int)<(i:Int))=((j:Int) != (i:Int)):=by
 by_cases e:j=i
 ·subst e;simp
 ·rw [decide_eq_true (by omega)]
  symm;rw [bne_iff_ne];omega
section
variable {ns:List Nd} {root:Int} (h:RightT ns root)
include h
theorem RightT.snd:soundS ns root=true:=by have:=h.ok;simp only [rightS,Bool.and_eq_true] at this;exact this.1.1.1
theorem RightT.rise {p:Nat} (hp:p<ns.length):(nd ns p).kids.Pairwise (·<·):=kids_rise h.snd hp
theorem RightT.inr {p:Nat} (hp:p<ns.length):∀ q∈(nd ns p).kids,0≤q∧q<(ns.length:Int):=fun q hq=>by
 have:=h.kid p hp q hq
 omega
theorem RightT.only {i:Nat} (hi:i<ns.length) (hk:(nd ns i).k=1):(i:Int)=root:=by
 by_cases e:(i:Int)=root
 ·exact e
 ·obtain⟨p,_,h2,h3,_⟩:=h.up hi e
  have h5:=kid_kind (h.shape p h2) (kinds_mem h3)
  simp only [Int.toNat_natCast,hk] at h5
  rcases h5 with ⟨_,h5⟩|⟨_,h5⟩|⟨_,h5⟩|⟨_,_,h5⟩|⟨_,h5⟩|⟨_,h5⟩|⟨_,h5⟩
  ·omega
  ·omega
  ·simp [stB] at h5
  ·simp [exB] at h5
  ·omega
  ·omega
  ·omega
theorem RightT.glob {i:Nat} (hi:i<ns.length) (hk:(nd ns i).k=2∨(nd ns i).k=3):(i:Int)∈(nd ns root.toNat).kids:=by
 obtain⟨p,_,h2,h3,_⟩:=h.up hi (h.notroot hi (by omega))
 have h5:=kid_kind (h.shape p h2) (kinds_mem h3)
 simp only [Int.toNat_natCast] at h5
 have h6:(nd ns p).k=1:=by
  rcases h5 with ⟨h5,_⟩|⟨_,h5⟩|⟨_,h5⟩|⟨_,_,h5⟩|⟨_,h5⟩|⟨_,h5⟩|⟨_,h5⟩
  ·exact h5
  ·omega
  ·simp only [stB,Bool.and_eq_true,decide_eq_true_eq] at h5;omega
  ·simp only [exB,Bool.and_eq_true,decide_eq_true_eq] at h5;omega
  ·omega
  ·omega
  ·omega
 have h7:=h.only h2 h6
 rw [← h7]
 exact h3
theorem RightT.rlt:root.toNat<ns.length:=by have:=h.rt;have:=h.pos;omega
theorem of_loc {p:Nat} (hp:p<ns.length) (hk:(nd ns p).k=3) (name:Bs):ofS ns p 4 5 name=natO (locS ns root (p:Int) name):=by
 refine ofF_nat (h.rise hp) (h.inr hp) fun i hi=>?_
 simp only [locP,ofB,Int.toNat_natCast,Bool.and_eq_true,Bool.or_eq_true,beq_iff_eq]
 constructor
 ·rintro⟨h1,h2,h3⟩
  obtain⟨p',_,_,g3,_,g5⟩:=h.decl hi h1
  obtain rfl:p'=p:=by omega
  exact⟨g3,h1,h3⟩
 ·rintro⟨h1,h2,h3⟩
  have:=own_kid h.toStd hp h1 (by simp only [Int.toNat_natCast];omega)
  simp only [Int.toNat_natCast] at this
  exact⟨h2,by rw [this,own_eq h.toStd hp,if_pos hk],h3⟩
theorem of_glob (name:Bs):ofS ns root.toNat 2 2 name=natO (globS ns name):=by
 refine ofF_nat (h.rise h.rlt) (h.inr h.rlt) fun i hi=>?_
 simp only [globP,ofB,Int.toNat_natCast,Bool.and_eq_true,Bool.or_eq_true,beq_iff_eq,or_self]
 exact⟨fun ⟨h1,h2⟩=>⟨h.glob hi (.inl h1),h1,h2⟩,fun ⟨_,h2⟩=>h2⟩
theorem of_proc (name:Bs):ofS ns root.toNat 3 3 name=procI ns name:=by
 refine ofF_nat (h.rise h.rlt) (h.inr h.rlt) fun i hi=>?_
 simp only [procP,ofB,Int.toNat_natCast,Bool.and_eq_true,Bool.or_eq_true,beq_iff_eq,or_self]
 exact⟨fun ⟨h1,h2⟩=>⟨h.glob hi (.inr h1),h1,h2⟩,fun ⟨_,h2⟩=>h2⟩
theorem means_of {i:Nat} (hi:i<ns.length) (name:Bs) :
  (own ns root i=-1∧meansS ns root i name=-1)∨(0≤own ns root i∧own ns root i<ns.length∧(nd ns (own ns root i).toNat).k=3 ∧
   ((0≤ofS ns (own ns root i).toNat 4 5 name∧meansS ns root i name=ofS ns (own ns root i).toNat 4 5 name)∨(ofS ns (own ns root i).toNat 4 5 name=-1∧meansS ns root i name=ofS ns root.toNat 2 2 name))):=by
 rcases own_range h.toStd hi with e|⟨e1,e2,e3⟩
 ·exact .inl ⟨e,by unfold meansS;rw [e];rfl⟩
 ·refine .inr ⟨by omega,e2,e3,?_⟩
  have hl:=of_loc h (p:=(own ns root i).toNat) (by omega) e3 name
  rw [show (((own ns root i).toNat:Nat):Int)=own ns root i by omega] at hl
  have hm:meansS ns root i name=match locS ns root (own ns root i) name with
    | some d=>(d:Int)
    | none=>natO (globS ns name):=by
   unfold meansS
   rw [show (own ns root i==-1)=false from beq_eq_false_iff_ne.2 (by omega)]
   rfl
  rw [hm,hl,of_glob h]
  cases locS ns root (own ns root i) name with
  | some d=>exact .inl ⟨by simp only [natO];omega,rfl⟩
  | none=>exact .inr ⟨rfl,rfl⟩
theorem means_kind {i:Nat} (_:i<ns.length) (name:Bs):meansS ns root i name=-1∨(0≤meansS ns root i name∧meansS ns root i name<ns.length∧1≤(nd ns (meansS ns root i name).toNat).n∧(nd ns (meansS ns root i name).toNat).n≤4):=by
 have num:∀ d:Nat,d<ns.length→((nd ns d).k=2∨(nd ns d).k=4∨(nd ns d).k=5)→1≤(nd ns d).n∧(nd ns d).n≤4:=fun d hd hk=>by
  have:=h.num d hd
  unfold numberS at this
  rw [if_pos hk] at this
  simp only [Bool.and_eq_true,decide_eq_true_eq] at this
  omega
 unfold meansS
 split
 ·exact .inl rfl
 ·split
  ·rename_i d hd
   obtain⟨h1,h2,_⟩:=firstB_some hd
   simp only [locP,Bool.and_eq_true,Bool.or_eq_true,beq_iff_eq] at h2
   have:=num d h1 (by omega)
   exact .inr ⟨by omega,by omega,by simpa using this⟩
  ·cases hg:globS ns name with
   | none=>exact .inl rfl
   | some d =>
    obtain⟨h1,h2,_⟩:=firstB_some hg
    simp only [globP,Bool.and_eq_true,beq_iff_eq] at h2
    have:=num d h1 (by omega)
    exact .inr ⟨by simp only [natO];omega,by simp only [natO];omega,by simpa [natO] using this⟩
theorem glob_first {g p:Int} (hg:g∈(nd ns root.toNat).kids) (hp:p∈(nd ns root.toNat).kids) (kg:(nd ns g.toNat).k=2) (kp:(nd ns p.toNat).k=3):g<p:=by
 have hs:=h.shape root.toNat h.rlt
 rw [h.top] at hs
 obtain⟨a,b,hab,ha,hb⟩:∃ a b,kindsS ns (nd ns root.toNat)=a++b∧(∀ x∈a,x=2)∧(∀ x∈b,x=3):=hs
 obtain⟨A,B,hAB,rfl,rfl⟩:=List.map_eq_append_iff.1 hab
 have hr:=h.rise h.rlt
 rw [hAB] at hr hg hp
 obtain⟨_,_,hr⟩:=List.pairwise_append.1 hr
 refine hr g ?_ p ?_
 ·rcases List.mem_append.1 hg with m|m
  ·exact m
  ·have:=hb _ (List.mem_map.2 ⟨g,m,rfl⟩)
   have kg:(ns.getD g.toNat default).k=2:=kg
   omega
 ·rcases List.mem_append.1 hp with m|m
  ·have:=ha _ (List.mem_map.2 ⟨p,m,rfl⟩)
   have kp:(ns.getD p.toNat default).k=3:=kp
   omega
  ·exact m
def twiceR (ns:List Nd) (root:Int) (i:Nat):Bool :=
 if (nd ns i).k=4∨(nd ns i).k=5 then decide (ofS ns (own ns root i).toNat 4 5 (nd ns i).tx<(i:Int))
 else decide (ofS ns root.toNat 2 3 (nd ns i).tx<(i:Int))
theorem twice_eq {i:Nat} (hi:i<ns.length) (hk:(nd ns i).k=2∨(nd ns i).k=3∨(nd ns i).k=4∨(nd ns i).k=5):twiceR ns root i=twiceS ns root i (nd ns i):=by
 have nat:∀ {P:Nat→Bool},P i=true→decide (natO (firstB P ns.length)<(i:Int))=(natZ (firstB P ns.length) != (i:Int)):=fun {P} hp=>by
  obtain⟨j,hj,hji⟩:=firstB_ex hi hp
  rw [hj]
  exact dec_ne hji
 unfold twiceR twiceS
 by_cases h4:(nd ns i).k=4∨(nd ns i).k=5
 ·rw [if_pos h4,if_pos h4]
  obtain⟨p,_,g2,g3,g4,g5⟩:=h.decl hi h4
  rw [g5,Int.toNat_natCast,of_loc h g2 g4]
  refine nat ?_
  simp only [locP,Bool.and_eq_true,Bool.or_eq_true,beq_iff_eq]
  exact⟨h4,g5,trivial⟩
 rw [if_neg h4,if_neg h4]
 have hik:=h.glob hi (by omega)
 have hB:ofB ns 2 3 (nd ns i).tx (i:Int)=true:=by
  simp only [ofB,Int.toNat_natCast,Bool.and_eq_true,Bool.or_eq_true,beq_iff_eq]
  exact⟨by omega,trivial⟩
 rcases ofF_spec (ns:=ns) (a:=2) (b:=3) (name:=(nd ns i).tx) (h.rise h.rlt) with ⟨_,f2⟩|⟨f1,f2,f3⟩
 ·rw [f2 _ hik] at hB;cases hB
 have hle:=f3 _ hik hB
 have hc0:=h.inr h.rlt _ f1
 change _≤_ at hle
 have hof:ofS ns root.toNat 2 3 (nd ns i).tx=ofF ns 2 3 (nd ns i).tx (nd ns root.toNat).kids:=rfl
 rw [hof]
 generalize ofF ns 2 3 (nd ns i).tx (nd ns root.toNat).kids=c at f1 f2 f3 hle hc0 ⊢
 obtain⟨c,rfl⟩:∃ n:Nat,c=(n:Int):=⟨c.toNat,by omega⟩
 simp only [ofB,Int.toNat_natCast,Bool.and_eq_true,Bool.or_eq_true,beq_iff_eq] at f2
 by_cases h2:(nd ns i).k=2
 ·rw [if_pos h2]
  obtain⟨j,hj,hji⟩:=firstB_ex (p:=globP ns (nd ns i).tx) hi (by simp [globP,h2])
  obtain⟨j1,j2,j3⟩:=firstB_some hj
  have e:(c:Int)=(j:Int):=by
   simp only [globP,Bool.and_eq_true,beq_iff_eq] at j2
   have hjk:=h.glob j1 (.inl j2.1)
   have l1:=f3 _ hjk (by simp only [ofB,Int.toNat_natCast,Bool.and_eq_true,Bool.or_eq_true,beq_iff_eq];exact⟨.inl j2.1,j2.2⟩)
   rcases f2.1 with k2|k3
   ·by_cases e:c<j
    ·have:=j3 c e
     simp [globP,k2,f2.2] at this
    ·omega
   ·have:=glob_first h hjk f1 (by simpa using j2.1) (by simpa using k3)
    omega
  rw [e]
  simp only [globS,hj]
  exact dec_ne hji
 ·rw [if_neg h2]
  have h3:(nd ns i).k=3:=by omega
  obtain⟨j,hj,hji⟩:=firstB_ex (p:=procP ns (nd ns i).tx) hi (by simp [procP,h3])
  obtain⟨j1,j2,j3⟩:=firstB_some hj
  simp only [procP,Bool.and_eq_true,beq_iff_eq] at j2
  have hjk:=h.glob j1 (.inr j2.1)
  have l1:=f3 _ hjk (by simp only [ofB,Int.toNat_natCast,Bool.and_eq_true,Bool.or_eq_true,beq_iff_eq];exact⟨.inr j2.1,j2.2⟩)
  simp only [tprocS,hj]
  show _=(_ || ((j:Int) != (i:Int)))
  cases hg:globS ns (nd ns i).tx with
  | some g =>
   obtain⟨g1,g2,_⟩:=firstB_some hg
   simp only [globP,Bool.and_eq_true,beq_iff_eq] at g2
   have hgk:=h.glob g1 (.inl g2.1)
   have l2:=f3 _ hgk (by simp only [ofB,Int.toNat_natCast,Bool.and_eq_true,Bool.or_eq_true,beq_iff_eq];exact⟨.inl g2.1,g2.2⟩)
   have l3:=glob_first h hgk hik (by simpa using g2.1) (by simpa using h3)
   simp only [Option.isSome_some,Bool.true_or]
   exact decide_eq_true (by omega)
  | none =>
   simp only [Option.isSome_none,Bool.false_or]
   have e:(c:Int)=(j:Int):=by
    rcases f2.1 with k2|k3
    ·have:=firstB_none hg c (by omega)
     simp [globP,k2,f2.2] at this
    ·by_cases e:c<j
     ·have:=j3 c e
      simp [procP,k3,f2.2] at this
     ·omega
   rw [e]
   exact dec_ne hji
end
end Go.Ru
namespace Go.Ru
section
variable (ns:List Nd) (root:Int)
def namedR (i:Nat) (want:Int) (fits:Bool):Int :=
 if meansS ns root i (nd ns i).tx<0 then 3
 else if (want≠0∧kindS ns root i (nd ns i).tx≠want)∨fits=false then 5 else 0
def operR (n:Nd):Bool :=
 if n.tx=[61,61]∨n.tx=[33,61] then tyS ns root (n.kids.getD 0 0).toNat==tyS ns root (n.kids.getD 1 0).toNat&&(tyS ns root (n.kids.getD 0 0).toNat==1 || tyS ns root (n.kids.getD 0 0).toNat==2)
 else if n.tx=[33]∨n.tx=[38,38]∨n.tx=[124,124] then allS ns root n.kids 2
 else allS ns root n.kids 1
def retR (n:Nd) (a:Int):Bool:=if n.kids.length=0 then a==0 else (a != 0&&tyS ns root (n.kids.getD 0 0).toNat==a)
def wrongR (i:Nat):Int :=
 let n:=nd ns i
 if n.k=2∨n.k=3∨n.k=4∨n.k=5 then (if twiceR ns root i then 4 else 0)
 else if n.k=22 then namedR ns root i 0 true
 else if n.k=23∨n.k=8∨n.k=17 then namedR ns root i 3 (allS ns root n.kids 1)
 else if n.k=24 then namedR ns root i 3 true
 else if n.k=9∨n.k=16 then namedR ns root i 1 true
 else if n.k=25 then (if procI ns n.tx<0 then 3 else toldS (tplainS ns (procI ns n.tx).toNat))
 else if n.k=26∨n.k=27 then toldS (operR ns root n)
 else if n.k=7 then namedR ns root i (tyS ns root (n.kids.getD 0 0).toNat) true
 else if n.k=10 then toldS (tyS ns root (n.kids.getD 1 0).toNat==1)
 else if n.k=15 then toldS (tyS ns root (n.kids.getD 0 0).toNat==1)
 else if n.k=11∨n.k=12 then toldS (tyS ns root (n.kids.getD 0 0).toNat==2)
 else if n.k=13 then tcallS ns root i n
 else if n.k=14 then toldS (retR ns root n (nd ns (own ns root i).toNat).n)
 else 0
end
section
variable {ns:List Nd} {root:Int} (h:RightT ns root)
include h
theorem named_eq {i:Nat} (hi:i<ns.length) {want:Int} (fits:Bool) (hw:want≠0):namedR ns root i want fits=tnamedS ns root i fun k=>k==want&&fits:=by
 unfold namedR tnamedS
 rcases means_kind h hi (nd ns i).tx with e|⟨e1,_,_⟩
 ·rw [if_pos (by omega),if_pos e]
 ·rw [if_neg (show ¬ meansS ns root i (nd ns i).tx<0 by omega),if_neg (show ¬ meansS ns root i (nd ns i).tx=-1 by omega)]
  by_cases e:kindS ns root i (nd ns i).tx=want
  ·cases fits<;>simp [e,toldS]
  ·rw [if_pos (.inl ⟨hw,e⟩)]
   have:(kindS ns root i (nd ns i).tx==want)=false:=beq_eq_false_iff_ne.2 e
   show (5:Int)=toldS (kindS ns root i (nd ns i).tx==want&&fits)
   rw [this];rfl
theorem named_eq' {i:Nat} (hi:i<ns.length) {want:Int} (hw:want≠0):namedR ns root i want true=tnamedS ns root i fun k=>k==want:=by
 rw [named_eq h hi true hw];simp only [Bool.and_true]
theorem kids_one {i:Nat} (hi:i<ns.length) (hk:(nd ns i).k=7∨(nd ns i).k=17∨(nd ns i).k=15∨(nd ns i).k=23∨(nd ns i).k=26):∃ q,(nd ns i).kids=[q]∧exB (nd ns q.toNat).k=true:=by
 have hs:=h.shape i hi
 have hl:=kinds_len ns (nd ns i)
 unfold ShapeOf at hs
 rw [if_neg (by omega),if_neg (by omega),if_neg (by omega),if_pos hk] at hs
 obtain⟨a,ha,he⟩:=hs
 rw [ha] at hl
 match hq:(nd ns i).kids with
 | [q] =>
  refine⟨q,rfl,?_⟩
  rw [kindsS,hq] at ha
  simp only [List.map_cons,List.map_nil,List.cons.injEq,and_true] at ha
  show exB (ns.getD q.toNat default).k=true
  rw [ha];exact he
 | []=>rw [hq] at hl;simp at hl
 | _::_::_=>rw [hq] at hl;simp at hl
theorem kids_two {i:Nat} (hi:i<ns.length) (hk:(nd ns i).k=8∨(nd ns i).k=27∨(nd ns i).k=10∨(nd ns i).k=12):∃ q r,(nd ns i).kids=[q,r]:=by
 have hs:=h.shape i hi
 have hl:=kinds_len ns (nd ns i)
 have:(kindsS ns (nd ns i)).length=2:=by
  unfold ShapeOf at hs
  rw [if_neg (by omega),if_neg (by omega),if_neg (by omega),if_neg (by omega)] at hs
  by_cases h8:(nd ns i).k=8∨(nd ns i).k=27
  ·rw [if_pos h8] at hs
   obtain⟨a,b,e,_⟩:=hs
   rw [e];rfl
  rw [if_neg h8,if_neg (by omega)] at hs
  by_cases h10:(nd ns i).k=10
  ·rw [if_pos h10] at hs
   obtain⟨a,e,_⟩:=hs
   rw [e];rfl
  rw [if_neg h10,if_neg (by omega),if_pos (by omega)] at hs
  obtain⟨a,e,_⟩:=hs
  rw [e];rfl
 match hq:(nd ns i).kids with
 | [q,r]=>exact⟨q,r,rfl⟩
 | []=>rw [this,hq] at hl;simp at hl
 | [_]=>rw [this,hq] at hl;simp at hl
 | _::_::_::_=>rw [this,hq] at hl;simp at hl
theorem kids_if {i:Nat} (hi:i<ns.length) (hk:(nd ns i).k=11):∃ q r s,(nd ns i).kids=[q,r,s]:=by
 have hs:=h.shape i hi
 have hl:=kinds_len ns (nd ns i)
 have:(kindsS ns (nd ns i)).length=3:=by
  rw [hk] at hs
  obtain⟨a,e,_⟩:∃ a,kindsS ns (nd ns i)=[a,6,6]∧exB a=true:=hs
  rw [e];rfl
 match hq:(nd ns i).kids with
 | [q,r,s]=>exact⟨q,r,s,rfl⟩
 | []=>rw [this,hq] at hl;simp at hl
 | [_]=>rw [this,hq] at hl;simp at hl
 | [_,_]=>rw [this,hq] at hl;simp at hl
 | _::_::_::_::_=>rw [this,hq] at hl;simp at hl
theorem kids_ret {i:Nat} (hi:i<ns.length) (hk:(nd ns i).k=14):(nd ns i).kids.length≤1:=by
 have hs:=h.shape i hi
 have hl:=kinds_len ns (nd ns i)
 rw [hk] at hs
 have hs:kindsS ns (nd ns i)=[]∨∃ a,kindsS ns (nd ns i)=[a]∧exB a=true:=hs
 rcases hs with e|⟨a,e,_⟩<;>rw [e] at hl<;>simp at hl<;>omega
theorem own_in {i:Nat} (hi:i<ns.length) (hk:3≤(nd ns i).k):0≤own ns root i∧own ns root i<ns.length:=h.owned ns.length i (by omega) hi (by omega) (by omega)
theorem oper_eq {i:Nat} (hi:i<ns.length) (hk:(nd ns i).k=26∨(nd ns i).k=27):operR ns root (nd ns i)=operandsS ns root (nd ns i):=by
 unfold operR operandsS
 by_cases h1:(nd ns i).tx=[61,61]∨(nd ns i).tx=[33,61]
 ·rw [if_pos h1,if_neg (by rcases h1 with e|e<;>rw [e]<;>decide),if_pos h1]
  have h27:(nd ns i).k=27:=by
   rcases hk with e|e
   ·have:=h.tx i hi
    rw [e] at this
    rcases h1 with e1|e1<;>rw [e1] at this<;>exact absurd this (by decide)
   ·exact e
  obtain⟨q,r,e⟩:=kids_two h hi (.inr (.inl h27))
  rw [e]
  simp only [allS,List.all_cons,List.all_nil,Bool.and_true,List.getD_cons_zero,List.getD_cons_succ]
  generalize tyS ns root q.toNat=a
  generalize tyS ns root r.toNat=b
  rw [Bool.eq_iff_iff]
  simp only [Bool.and_eq_true,Bool.or_eq_true,beq_iff_eq]
  omega
 ·rw [if_neg h1]
  by_cases h2:(nd ns i).tx=[33]∨(nd ns i).tx=[38,38]∨(nd ns i).tx=[124,124]
  ·rw [if_pos h2,if_pos h2]
  ·rw [if_neg h2,if_neg h2,if_neg h1]
theorem wrong_eq {i:Nat} (hi:i<ns.length) (hb:∀ j,j<i→checkS ns root j=0):wrongR ns root i=checkS ns root i:=by
 unfold wrongR checkS
 extract_lets n
 by_cases h1:n.k=2∨n.k=3∨n.k=4∨n.k=5
 ·rw [if_pos h1,if_pos h1,twice_eq h hi h1]
 rw [if_neg h1,if_neg h1]
 by_cases h2:n.k=22
 ·rw [if_pos h2,if_pos h2]
  unfold namedR tnamedS
  rcases means_kind h hi (nd ns i).tx with e|⟨e1,_,_⟩
  ·rw [if_pos (by omega),if_pos e]
  ·rw [if_neg (show ¬ meansS ns root i (nd ns i).tx<0 by omega),if_neg (show ¬ meansS ns root i (nd ns i).tx=-1 by omega)];simp [toldS]
 rw [if_neg h2,if_neg h2]
 by_cases h3:n.k=23∨n.k=8∨n.k=17
 ·rw [if_pos h3,if_pos h3];exact named_eq h hi _ (by decide)
 rw [if_neg h3,if_neg h3]
 by_cases h4:n.k=24
 ·rw [if_pos h4,if_pos h4];exact named_eq' h hi (by decide)
 rw [if_neg h4,if_neg h4]
 by_cases h5:n.k=9∨n.k=16
 ·rw [if_pos h5,if_pos h5];exact named_eq' h hi (by decide)
 rw [if_neg h5,if_neg h5]
 by_cases h7:n.k=7
 ·rw [if_neg (by omega),if_neg (by omega),if_pos h7,if_pos h7]
  obtain⟨q,hq,hx⟩:=kids_one h hi (.inl h7)
  have hqk:=h.kid i hi q (by rw [hq];simp)
  refine named_eq' h hi ?_
  show tyS ns root ((nd ns i).kids.getD 0 0).toNat≠0
  rw [hq]
  show tyS ns root q.toNat≠0
  have hc:=hb q.toNat (by omega)
  simp only [exB,Bool.and_eq_true,decide_eq_true_eq] at hx
  unfold tyS
  extract_lets m
  by_cases t1:m.k=20∨m.k=23∨m.k=24
  ·rw [if_pos t1];decide
  rw [if_neg t1]
  by_cases t2:m.k=21
  ·rw [if_pos t2];decide
  rw [if_neg t2]
  by_cases t3:m.k=25
  ·rw [if_pos t3];decide
  rw [if_neg t3]
  by_cases t4:m.k=22
  ·rw [if_pos t4]
   have hc:tnamedS ns root q.toNat (fun _=>true)=0:=by
    have t4:(nd ns q.toNat).k=22:=t4
    unfold checkS at hc
    simpa [t4] using hc
   obtain⟨c1,_,c3⟩:=named_ok hc
   show kindS ns root q.toNat (nd ns q.toNat).tx≠0
   rw [c3]
   rcases means_kind h (i:=q.toNat) (by omega) (nd ns q.toNat).tx with e|⟨_,_,e,_⟩<;>omega
  rw [if_neg t4]
  rw [if_pos (show m.k=26∨m.k=27 by show (nd ns q.toNat).k=26∨(nd ns q.toNat).k=27;have t1:¬ ((nd ns q.toNat).k=20∨(nd ns q.toNat).k=23∨(nd ns q.toNat).k=24):=t1;have t2:¬ (nd ns q.toNat).k=21:=t2;have t3:¬ (nd ns q.toNat).k=25:=t3;have t4:¬ (nd ns q.toNat).k=22:=t4;omega)]
  split<;>decide
 by_cases h25:n.k=25
 ·rw [if_pos h25,if_neg h7,if_pos h25]
  rcases procI_range ns n.tx with e|⟨e,_⟩
  ·rw [if_pos (by omega),if_pos e]
  ·rw [if_neg (show ¬ procI ns n.tx<0 by omega),if_neg (show ¬ procI ns n.tx=-1 by omega)]
 rw [if_neg h25]
 by_cases h26:n.k=26∨n.k=27
 ·rw [if_pos h26,if_neg h7,if_neg h25,if_pos h26]
  congr 1
  exact oper_eq h hi h26
 rw [if_neg h26,if_neg h7,if_neg h7,if_neg h25,if_neg h26]
 by_cases h10:n.k=10
 ·rw [if_pos h10,if_pos h10]
  obtain⟨q,r,e⟩:=kids_two h hi (.inr (.inr (.inl h10)))
  have e:n.kids=[q,r]:=e
  rw [e];simp [allS]
 rw [if_neg h10,if_neg h10]
 by_cases h15:n.k=15
 ·rw [if_pos h15,if_pos h15]
  obtain⟨q,e,_⟩:=kids_one h hi (.inr (.inr (.inl h15)))
  have e:n.kids=[q]:=e
  rw [e];simp [allS]
 rw [if_neg h15,if_neg h15]
 by_cases h11:n.k=11∨n.k=12
 ·rw [if_pos h11,if_pos h11]
  rcases h11 with h11|h12
  ·obtain⟨q,r,s,e⟩:=kids_if h hi h11
   have e:n.kids=[q,r,s]:=e
   rw [e];simp [allS]
  ·obtain⟨q,r,e⟩:=kids_two h hi (.inr (.inr (.inr h12)))
   have e:n.kids=[q,r]:=e
   rw [e];simp [allS]
 rw [if_neg h11,if_neg h11]
 by_cases h13:n.k=13
 ·rw [if_pos h13,if_pos h13]
 rw [if_neg h13,if_neg h13]
 by_cases h14:n.k=14
 ·rw [if_pos h14,if_pos h14]
  congr 1
  have hl:=kids_ret h hi h14
  have hl:n.kids.length≤1:=hl
  unfold retR
  match hq:n.kids with
  | []=>simp [allS]
  | [q] =>
   simp only [allS,List.length_cons,List.length_nil,List.all_cons,List.all_nil,Bool.and_true,List.getD_cons_zero]
   generalize (nd ns (own ns root i).toNat).n=a
   by_cases e:a=0
   ·simp [e]
   ·simp [e];rfl
  | _::_::_=>rw [hq] at hl;simp at hl
 rw [if_neg h14,if_neg h14]
omit h in
theorem fit_len:∀ (l w:List Int),fitS ns root l w=true→l.length=w.length:=by
 intro l
 induction l with
 | nil=>intro w;cases w<;>simp [fitS]
 | cons a l ih =>
  intro w
  cases w with
  | nil=>simp [fitS]
  | cons b w=>simp only [fitS,Bool.and_eq_true,List.length_cons];intro h;rw [ih w h.2]
end
end Go.Ru
namespace Go.Proofs.YtojjkleplnijaaaGreatDoor
open Go.AE Go.Ru
set_option maxRecDepth 100000
set_option maxHeartbeats 1000000
theorem kt_of {ns:List Nd} {root:Int} (rt:RightT ns root):Kt ns:=⟨by have:=rt.len;omega,fun i=>by
 by_cases hi:i<ns.length
 ·have:=rt.many i hi;have:=rt.len;omega
 ·rw [show nd ns i=default by simp [nd,Nat.le_of_not_lt hi]]
  exact (by decide:(default:Nd).kids.length<1000000)⟩
def cRown:AC:=fun args K k=>∃ ns root i' i v,args=[treeV ns root,intV i']∧i'=((i:Nat):Int)∧RightT ns root∧i<ns.length∧own ns root i=v∧k (.ret (intV v)) K
theorem rown_ok:COk 54 cRown:=by
 rintro args K k ⟨ns,root,_,i,v,rfl,rfl,rt,hi,rfl,hk⟩
 have hlen:=rt.len
 have st:=rt.toStd
 refine frame0P (gput_ok rparents_ok g0_ok) 19 rfl fun Q hr=>?_
 conv=>whnf
 refine⟨ns,root,rfl,kt_of rt,rt.snd,?_⟩
 conv=>whnf
 refine loop_up (ι:=Int) [2,5] (fun j=>[(6,intV j)]) (fun _=>[]) (fun j=>(j=-1∧own ns root i=-1)∨(0≤j∧j<(ns.length:Int)∧own ns root j.toNat=own ns root i)) (fun j=>if j<0 then 0 else ns.length - j.toNat) (i:Int) ⟨AV.le_refl _,trivial⟩ trivial (.inr ⟨by omega,by omega,by simp⟩) ?_
 rintro Y hle j hj ih
 conv=>whnf
 refine two_dec (fun h=>?_) (fun h=>?_)
 ·have h:0≤j:=h
  obtain⟨_,hjl,hje⟩:=hj.resolve_left (fun e=>by omega)
  obtain⟨x,rfl⟩:∃ x:Nat,j=(x:Int):=⟨j.toNat,by omega⟩
  rw [Int.toNat_natCast] at hje
  have hx:x<ns.length:=by omega
  have hoe:=own_eq st hx
  conv=>whnf
  refine⟨⟨h,hjl,rfl⟩,?_⟩
  conv=>whnf
  refine two_eq (fun h2=>?_) (fun h2=>?_)
  ·have h2:(nd ns x).k=3:=h2
   rw [if_pos h2] at hoe
   rw [← hje,hoe] at hk
   conv=>whnf
   exact hr _ _ rfl hk
  have h2:(nd ns x).k≠3:=h2
  rw [if_neg h2] at hoe
  have hnext:(parF ns root x=-1∧own ns root i=-1)∨(0≤parF ns root x∧parF ns root x<(ns.length:Int)∧own ns root (parF ns root x).toNat=own ns root i):=by
   by_cases e:(x:Int)=root
   ·rw [if_pos e] at hoe
    refine .inl ⟨?_,by rw [← hje,hoe]⟩
    have:=st.par_root
    rw [← e,Int.toNat_natCast] at this
    rw [← this,e]
   ·rw [if_neg e] at hoe
    obtain⟨p,p1,p2,_,p4⟩:=rt.up hx e
    rw [p4] at hoe ⊢
    exact .inr ⟨by omega,by omega,by rw [← hje,hoe]⟩
  have hdec:(if parF ns root x<0 then 0 else ns.length - (parF ns root x).toNat)<(if (x:Int)<0 then 0 else ns.length - (x:Int).toNat):=by
   rw [if_neg (by omega:¬ (x:Int)<0),Int.toNat_natCast]
   split
   ·omega
   ·by_cases e:(x:Int)=root
    ·have:=st.par_root
     rw [← e,Int.toNat_natCast] at this
     have hpr:parF ns root x=-1:=by rw [← this,e]
     omega
    ·obtain⟨p,p1,p2,_,p4⟩:=rt.up hx e
     rw [p4];omega
  conv=>whnf
  refine⟨⟨h,hjl,rfl⟩,?_⟩
  conv=>whnf
  refine hle _ _ (Le.env ?_ ?_) (ih (parF ns root x) hdec hnext)
  ·skip
   repeat' (first|exact trivial|((conv=>whnf);first|exact trivial|refine⟨AV.le_refl _,?_⟩|refine⟨ABlk.le_refl _,?_⟩|fail)|fail)
  ·skip
   repeat' (first|exact trivial|((conv=>whnf);first|exact trivial|refine⟨AV.le_refl _,?_⟩|refine⟨ABlk.le_refl _,?_⟩|fail)|fail)
 ·have h:¬ 0≤j:=h
  have hj:own ns root i=-1:=(hj.resolve_right (fun e=>h e.1)).2
  rw [hj] at hk
  conv=>whnf
  exact hr _ _ rfl hk
def cRof:AC:=fun args K k=>∃ ns root p' p a b name v,args=[treeV ns root,intV p',intV a,intV b,.p (.str name)]∧p'=((p:Nat):Int)∧RightT ns root∧p<ns.length∧ofS ns p a b name=v∧k (.ret (intV v)) K
theorem rof_ok:COk 51 cRof:=by
 rintro args K k ⟨ns,root,_,p,a,b,name,v,rfl,rfl,rt,hp,hv,hk⟩
 have hlen:=rt.len
 have hm:=rt.many p hp
 have hin:=rt.inr hp
 refine frame0P g0_ok 19 rfl fun Q hr=>?_
 conv=>whnf
 refine⟨⟨by omega,by omega,rfl⟩,?_⟩
 conv=>whnf
 refine loop_up (ι:=Nat) [2,3,4,5,11] (fun j=>[(12,intV j)]) (fun _=>[]) (fun j=>j≤(nd ns p).kids.length∧ofF ns a b name ((nd ns p).kids.drop j)=v) (fun j=>(nd ns p).kids.length - j) 0 ⟨AV.le_refl _,trivial⟩ trivial ⟨Nat.zero_le _,hv⟩ ?_
 rintro Y hle i ⟨hi,he⟩ ih
 conv=>whnf
 refine two_dec (fun h=>?_) (fun h=>?_)
 ·have h:i<(nd ns p).kids.length:=by have h:(i:Int)<((nd ns p).kids.length:Int):=h;omega
  have h':(i:Int)<((nd ns p).kids.length:Int):=by omega
  have hw1:=wzz (i:=i) (by omega)
  have hq:=hin _ (getD_mem h)
  have hdr:(nd ns p).kids.drop i=(nd ns p).kids.getD i 0::(nd ns p).kids.drop (i+1):=by
   rw [List.drop_eq_getElem_cons h];congr 1;simp [h]
  conv=>whnf
  refine⟨⟨by omega,h',rfl⟩,?_⟩
  conv=>whnf
  refine⟨⟨hq.1,hq.2,rfl⟩,?_⟩
  conv=>whnf
  repeat ((refine And.intro ?_ ?_);(focus ((conv=>whnf);first|done|exact⟨⟨by omega,h',rfl⟩,by conv=>whnf⟩|exact⟨⟨hq.1,hq.2,rfl⟩,by conv=>whnf⟩));conv=>whnf)
  refine two_eq (fun h2=>?_) (fun h2=>?_)
  ·have h2:(nd ns ((nd ns p).kids.getD i 0).toNat).k=a:=h2
   conv=>whnf
   refine two_eq (fun h4=>?_) (fun h4=>?_)
   ·have h4:(nd ns ((nd ns p).kids.getD i 0).toNat).tx=name:=h4
    have he:(nd ns p).kids.getD i 0=v:=by rw [← he,hdr];simp only [ofF,ofB];rw [h2,h4];simp
    conv=>whnf
    refine⟨⟨by omega,h',rfl⟩,?_⟩
    rw [← he] at hk
    conv=>whnf
    exact hr _ _ rfl hk
   ·have h4:(nd ns ((nd ns p).kids.getD i 0).toNat).tx≠name:=h4
    have he:=he.symm.trans (show ofF ns a b name ((nd ns p).kids.drop i)=ofF ns a b name ((nd ns p).kids.drop (i+1)) by rw [hdr];simp only [ofF,ofB];rw [beq_eq_false_iff_ne.2 h4,Bool.and_false])
    conv=>whnf
    refine hle _ _ (Le.cutEnv 1 rfl rfl ⟨rfl,trivial⟩ ?_ ?_) (ih (i+1) (by omega) ⟨by omega,he.symm⟩)
    ·skip
     repeat' (first|exact trivial|((conv=>whnf);first|exact trivial|refine⟨AV.le_refl _,?_⟩|refine⟨ABlk.le_refl _,?_⟩|(refine⟨AV.le_of_eq ?_,?_⟩;focus ((first|exact congrArg intV hw1|fail);done))|(refine⟨ABlk.le_of_eq ?_,?_⟩;focus ((first|exact congrArg intV hw1|fail);done))|fail)|fail)
    ·skip
     repeat' (first|exact trivial|((conv=>whnf);first|exact trivial|refine⟨AV.le_refl _,?_⟩|refine⟨ABlk.le_refl _,?_⟩|fail)|fail)
  have h2:(nd ns ((nd ns p).kids.getD i 0).toNat).k≠a:=h2
  conv=>whnf
  refine two_eq (fun h3=>?_) (fun h3=>?_)
  ·have h3:(nd ns ((nd ns p).kids.getD i 0).toNat).k=b:=h3
   conv=>whnf
   refine two_eq (fun h4=>?_) (fun h4=>?_)
   ·have h4:(nd ns ((nd ns p).kids.getD i 0).toNat).tx=name:=h4
    have he:(nd ns p).kids.getD i 0=v:=by rw [← he,hdr];simp only [ofF,ofB];rw [h3,h4];simp
    conv=>whnf
    refine⟨⟨by omega,h',rfl⟩,?_⟩
    rw [← he] at hk
    conv=>whnf
    exact hr _ _ rfl hk
   ·have h4:(nd ns ((nd ns p).kids.getD i 0).toNat).tx≠name:=h4
    have he:=he.symm.trans (show ofF ns a b name ((nd ns p).kids.drop i)=ofF ns a b name ((nd ns p).kids.drop (i+1)) by rw [hdr];simp only [ofF,ofB];rw [beq_eq_false_iff_ne.2 h4,Bool.and_false])
    conv=>whnf
    refine hle _ _ (Le.cutEnv 1 rfl rfl ⟨rfl,trivial⟩ ?_ ?_) (ih (i+1) (by omega) ⟨by omega,he.symm⟩)
    ·skip
     repeat' (first|exact trivial|((conv=>whnf);first|exact trivial|refine⟨AV.le_refl _,?_⟩|refine⟨ABlk.le_refl _,?_⟩|(refine⟨AV.le_of_eq ?_,?_⟩;focus ((first|exact congrArg intV hw1|fail);done))|(refine⟨ABlk.le_of_eq ?_,?_⟩;focus ((first|exact congrArg intV hw1|fail);done))|fail)|fail)
    ·skip
     repeat' (first|exact trivial|((conv=>whnf);first|exact trivial|refine⟨AV.le_refl _,?_⟩|refine⟨ABlk.le_refl _,?_⟩|fail)|fail)
  have h3:(nd ns ((nd ns p).kids.getD i 0).toNat).k≠b:=h3
  have he:=he.symm.trans (show ofF ns a b name ((nd ns p).kids.drop i)=ofF ns a b name ((nd ns p).kids.drop (i+1)) by rw [hdr];simp only [ofF,ofB];rw [beq_eq_false_iff_ne.2 h2,beq_eq_false_iff_ne.2 h3,Bool.or_self,Bool.false_and])
  conv=>whnf
  refine hle _ _ (Le.cutEnv 1 rfl rfl ⟨rfl,trivial⟩ ?_ ?_) (ih (i+1) (by omega) ⟨by omega,he.symm⟩)
  ·skip
   repeat' (first|exact trivial|((conv=>whnf);first|exact trivial|refine⟨AV.le_refl _,?_⟩|refine⟨ABlk.le_refl _,?_⟩|(refine⟨AV.le_of_eq ?_,?_⟩;focus ((first|exact congrArg intV hw1|fail);done))|(refine⟨ABlk.le_of_eq ?_,?_⟩;focus ((first|exact congrArg intV hw1|fail);done))|fail)|fail)
  ·skip
   repeat' (first|exact trivial|((conv=>whnf);first|exact trivial|refine⟨AV.le_refl _,?_⟩|refine⟨ABlk.le_refl _,?_⟩|fail)|fail)
 ·obtain rfl:i=(nd ns p).kids.length:=by have h:¬ (i:Int)<((nd ns p).kids.length:Int):=h;omega
  rw [List.drop_length] at he
  have he:(-1:Int)=v:=he
  rw [← he] at hk
  conv=>whnf
  exact hr _ _ rfl hk
def gRm:AG:=gput 54 cRown (gput 51 cRof g0)
theorem gRm_ok:GOk Tryz.prog gRm:=gput_ok rown_ok (gput_ok rof_ok g0_ok)
def cRmeans:AC:=fun args K k=>∃ ns root i' i name v,args=[treeV ns root,intV i',.p (.str name)]∧i'=((i:Nat):Int)∧RightT ns root∧i<ns.length∧meansS ns root i name=v∧k (.ret (intV v)) K
theorem rmeans_ok:COk 56 cRmeans:=by
 rintro args K k ⟨ns,root,_,i,name,v,rfl,rfl,rt,hi,hv,hk⟩
 refine frame0P gRm_ok 19 rfl fun Q hr=>?_
 have hm:=means_of rt hi name
 rw [hv] at hm
 obtain⟨o,ho⟩:∃ o,own ns root i=o:=⟨_,rfl⟩
 rw [ho] at hm
 have hrl:=rt.rlt
 have hrt:=rt.rt
 have hrp:=rt.pos
 conv=>whnf
 refine⟨ns,root,_,i,o,rfl,rfl,rt,hi,ho,?_⟩
 conv=>whnf
 refine two_dec (fun h=>?_) (fun h=>?_)
 ·have h:o<0:=h
  have hv:v=-1:=by rcases hm with ⟨_,e⟩|⟨e,_⟩;exact e;omega
  rw [hv] at hk
  conv=>whnf
  exact hr _ _ rfl hk
 have h:¬ o<0:=h
 obtain⟨_,o2,o3,hm⟩:=hm.resolve_left (fun e=>by omega)
 obtain⟨d,hd⟩:∃ d,ofS ns o.toNat 4 5 name=d:=⟨_,rfl⟩
 rw [hd] at hm
 conv=>whnf
 refine⟨ns,root,_,o.toNat,4,5,name,d,rfl,by omega,rt,by omega,hd,?_⟩
 conv=>whnf
 refine two_dec (fun h2=>?_) (fun h2=>?_)
 ·have h2:d<0:=h2
  obtain⟨_,hv⟩:=hm.resolve_left (fun e=>by omega)
  conv=>whnf
  refine⟨ns,root,_,root.toNat,2,2,name,v,rfl,by omega,rt,hrl,hv.symm,?_⟩
  conv=>whnf
  exact hr _ _ rfl hk
 ·have h2:¬ d<0:=h2
  obtain⟨_,hv⟩:=hm.resolve_right (fun e=>by omega)
  rw [hv] at hk
  conv=>whnf
  exact hr _ _ rfl hk
def cRkind:AC:=fun args K k=>∃ ns root i' i name v,args=[treeV ns root,intV i',.p (.str name)]∧i'=((i:Nat):Int)∧RightT ns root∧i<ns.length∧kindS ns root i name=v∧k (.ret (intV v)) K
theorem rkind_ok:COk 114 cRkind:=by
 rintro args K k ⟨ns,root,_,i,name,v,rfl,rfl,rt,hi,rfl,hk⟩
 refine frame0P (gput_ok rmeans_ok g0_ok) 19 rfl fun Q hr=>?_
 have hm:=means_range ns root i name
 unfold kindS at hk
 obtain⟨d,hd⟩:∃ d,meansS ns root i name=d:=⟨_,rfl⟩
 rw [hd] at hm hk
 conv=>whnf
 refine⟨ns,root,_,i,name,d,rfl,rfl,rt,hi,hd,?_⟩
 conv=>whnf
 refine two_dec (fun h=>?_) (fun h=>?_)
 ·have h:d<0:=h
  obtain rfl:d=-1:=by omega
  have hk:k (.ret (intV 0)) K:=hk
  conv=>whnf
  exact hr _ _ rfl hk
 ·have h:¬ d<0:=h
  have hk:k (.ret (intV (nd ns d.toNat).n)) K:=by
   rw [show (d != -1)=true by rw [bne_iff_ne];omega] at hk;exact hk
  conv=>whnf
  refine⟨⟨by omega,by omega,rfl⟩,?_⟩
  conv=>whnf
  exact hr _ _ rfl hk
end Go.Proofs.YtojjkleplnijaaaGreatDoor
