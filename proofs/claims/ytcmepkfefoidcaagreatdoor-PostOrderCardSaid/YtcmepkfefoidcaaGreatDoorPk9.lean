/-
  On the way to postOrder_card: part 9 of 10.
-/
import Derived.Test.YtcmepkfefoidcaaGreatDoorPk8
set_option linter.unusedVariables false
set_option linter.unusedSimpArgs false
namespace Go.Proofs.YtcmepkfefoidcaaGreatDoor
open Go.AE Go.Ru
set_option maxRecDepth 100000
set_option maxHeartbeats 400000
def cAmong11:AC:=fun args K k=>∃ l n b,args=[intsV l,intV n]∧List.length l<1000000∧decide (n∈l)=b∧k (.ret (.p (.bool b))) K
theorem among11_ok:COk 20 cAmong11:=by
 rintro args K k ⟨l,n,b,rfl,hl,rfl,hk⟩
 refine frame0P g0_ok 19 rfl fun Q hr=>?_
 conv=>whnf
 refine loop_up (ι:=Nat) [0,1] (fun i=>[(5,intV i)]) (fun _=>[]) (fun i=>i≤l.length∧n ∉ l.take i) (fun i=>l.length - i) 0 ⟨AV.le_refl _,trivial⟩ trivial ⟨Nat.zero_le _,by simp⟩ ?_
 rintro Y hle i ⟨hi,hni⟩ ih
 conv=>whnf
 refine two_dec (fun h=>?_) (fun h=>?_)
 ·have h:i<l.length:=by have h:(i:Int)<(l.length:Int):=h;omega
  have hw1:=wzz (i:=i) (by omega)
  have hil:(i:Int)<(l.length:Int):=by omega
  have e1:l.getD i 0=l[i]:=by simp [h]
  have htk:l.take (i+1)=l.take i++[l.getD i 0]:=by rw [List.take_add_one,e1,List.getElem?_eq_getElem h];rfl
  conv=>whnf
  refine Chk.mk ⟨Int.natCast_nonneg i,hil,rfl⟩ ?_
  conv=>whnf
  refine two_eq (fun h2=>?_) (fun h2=>?_)
  ·have h2:l.getD i 0=n:=h2
   have hm:n∈l:=by rw [← h2,e1];exact List.getElem_mem h
   rw [decide_eq_true hm] at hk
   conv=>whnf
   exact hr _ _ rfl hk
  ·have h2:l.getD i 0≠n:=h2
   conv=>whnf
   refine hle _ _ (Le.env ?_ ?_) (ih (i+1) (by omega) ⟨by omega,by rw [htk];simp only [List.mem_append,List.mem_cons,List.not_mem_nil,or_false,not_or];exact⟨hni,fun e=>h2 e.symm⟩⟩)
   ·skip
    repeat' (first|exact trivial|((conv=>whnf);first|exact trivial|refine⟨AV.le_refl _,?_⟩|refine⟨ABlk.le_refl _,?_⟩|(refine⟨AV.le_of_eq ?_,?_⟩;focus ((first|exact congrArg intV hw1|fail);done))|(refine⟨ABlk.le_of_eq ?_,?_⟩;focus ((first|exact congrArg intV hw1|fail);done))|fail)|fail)
   ·skip
    repeat' (first|exact trivial|((conv=>whnf);first|exact trivial|refine⟨AV.le_refl _,?_⟩|refine⟨ABlk.le_refl _,?_⟩|fail)|fail)
 ·obtain rfl:i=l.length:=by have h:¬ (i:Int)<(l.length:Int):=h;omega
  rw [List.take_length] at hni
  rw [decide_eq_false hni] at hk
  conv=>whnf
  exact hr _ _ rfl hk
structure SmG (s:BSt):Prop where
 n:s.n≤30
 ps:s.ps.length≤30
 nx:∀ x,x<s.n→(s.f x).nx.length≤10
def cSmG:AC:=fun args K k=>∃ s,args=[graphW s]∧(SmG s→k (.ret (.p (.bool true))) K)∧k (.ret (.p (.bool false))) K
theorem small11_ok:COk 13 cSmG:=by
 rintro args K k ⟨s,rfl,hk1,hk0⟩
 refine frame0P g0_ok 19 rfl fun Q hr=>?_
 conv=>whnf
 refine two_dec (fun h=>?_) (fun h=>?_)
 ·conv=>whnf
  exact hr _ _ rfl hk0
 have h:s.n≤30:=by have h:¬ (s.n:Int)>30:=h;omega
 conv=>whnf
 refine two_dec (fun h2=>?_) (fun h2=>?_)
 ·conv=>whnf
  exact hr _ _ rfl hk0
 have h2:s.ps.length≤30:=by have h2:¬ (s.ps.length:Int)>30:=h2;omega
 conv=>whnf
 refine loop_up (ι:=Nat) [1] (fun i=>[(3,intV i)]) (fun _=>[]) (fun i=>i≤s.n∧∀ x,x<i→(s.f x).nx.length≤10) (fun i=>s.n - i) 0 ⟨AV.le_refl _,trivial⟩ trivial ⟨Nat.zero_le _,fun x hx=>by omega⟩ ?_
 rintro Y hle i ⟨hi,he⟩ ih
 conv=>whnf
 refine two_dec (fun h3=>?_) (fun h3=>?_)
 ·have h3:i<s.n:=by have h3:(i:Int)<(s.n:Int):=h3;omega
  have hw1:=wzz (i:=i) (by omega)
  have h3':(i:Int)<(s.n:Int):=by omega
  conv=>whnf
  refine Chk.mk ⟨Int.natCast_nonneg i,h3',rfl⟩ ?_
  conv=>whnf
  refine two_dec (fun h4=>?_) (fun h4=>?_)
  ·conv=>whnf
   exact hr _ _ rfl hk0
  have h4:(s.f i).nx.length≤10:=by have h4:¬ ((s.f i).nx.length:Int)>10:=h4;omega
  conv=>whnf
  refine hle _ _ (Le.env ?_ ?_) (ih (i+1) (by omega) ⟨by omega,fun x hx=>by
   by_cases e:x=i
   ·rw [e];exact h4
   ·exact he x (by omega)⟩)
  ·skip
   repeat' (first|exact trivial|((conv=>whnf);first|exact trivial|refine⟨AV.le_refl _,?_⟩|refine⟨ABlk.le_refl _,?_⟩|(refine⟨AV.le_of_eq ?_,?_⟩;focus ((first|exact congrArg intV hw1|fail);done))|(refine⟨ABlk.le_of_eq ?_,?_⟩;focus ((first|exact congrArg intV hw1|fail);done))|fail)|fail)
  ·skip
   repeat' (first|exact trivial|((conv=>whnf);first|exact trivial|refine⟨AV.le_refl _,?_⟩|refine⟨ABlk.le_refl _,?_⟩|fail)|fail)
 ·obtain rfl:i=s.n:=by have h3:¬ (i:Int)<(s.n:Int):=h3;omega
  have hk:=hk1 ⟨h,h2,he⟩
  conv=>whnf
  exact hr _ _ rfl hk
def pr11:List Nd:=[⟨5,1,14,[120],[]⟩,⟨18,0,32,[108,111],[]⟩,⟨9,0,25,[120],[1]⟩,⟨22,0,39,[120],[]⟩,⟨20,1,43,[],[]⟩,⟨27,0,41,[60],[3,4]⟩,⟨18,0,51,[108,111],[]⟩,⟨20,1,54,[],[]⟩,⟨10,0,47,[],[6,7]⟩,⟨6,0,45,[],[8]⟩,⟨6,0,36,[],[]⟩,⟨11,0,36,[],[5,9,10]⟩,⟨18,0,63,[108,111],[]⟩,⟨20,2,66,[],[]⟩,⟨10,0,59,[],[12,13]⟩,⟨6,0,12,[],[2,11,14]⟩,⟨3,0,0,[109,97,105,110],[0,15]⟩,⟨1,0,0,[],[16]⟩]
def gr11:List GN:=[⟨1,16,0,[3],-1⟩,⟨2,16,0,[],-1⟩,⟨3,16,0,[],-1⟩,⟨4,2,0,[5],-1⟩,⟨4,8,0,[6],-1⟩,⟨4,11,0,[4,6],-1⟩,⟨4,14,0,[1],-1⟩]
def bs11:BSt:=⟨7,fun i=>gr11.getD i default,fun _=>none,[16],17⟩
def tx11:Bs:=[112,114,111,99,32,109,97,105,110,40,41,32,123,32,118,97,114,32,120,32,105,110,116,59,32,120,32,61,32,105,110,32,108,111,59,32,105,102,32,120,32,60,32,49,32,123,32,111,117,116,32,108,111,32,49,59,32,125,32,111,117,116,32,108,111,32,50,59,32,125]
theorem pr11_eq:proS tx11=.ok pr11 17 2:=by kernel_rfl
theorem ck11_eq:checkTree pr11 17=(0,0):=by kernel_rfl
theorem pr11_tame:Tame pr11:=small_tame (m:=400) (by decide) (by kernel_rfl)
theorem bs11_n:(buildS pr11 17).n=7:=by kernel_rfl
theorem bs11_ps:(buildS pr11 17).ps=[16]:=by kernel_rfl
theorem bs11_all:(List.range 7).all (fun i=>gnB ((buildS pr11 17).f i) (gr11.getD i default))=true:=by kernel_rfl
theorem bs11_f:∀ i,i<7→(buildS pr11 17).f i=gr11.getD i default:=fun i hi=>by
 have:=List.all_eq_true.1 bs11_all i (List.mem_range.2 hi)
 exact gnB_eq this
theorem short11:∀ x,x<7→(bs11.f x).nx.length<1000:=fun x hx=>by
 rcases x with _|_|_|_|_|_|_|x<;>first|decide|omega
theorem nds11:ndsP bs11.f 0 bs11.n=[0,1,2,3,4,5,6]:=by kernel_rfl
def pg11:PG:=pgN bs11.f [0,1,2,3,4,5,6]
theorem way11_1:Go.Ru.Way pg11 1 [1]:=.stop (by kernel_rfl)
theorem way11_2:Go.Ru.Way pg11 2 [2]:=.stop (by kernel_rfl)
theorem nx11_6:pg11.nx 6=[1]:=by kernel_rfl
theorem nx11_5:pg11.nx 5=[4,6]:=by kernel_rfl
theorem nx11_4:pg11.nx 4=[6]:=by kernel_rfl
theorem nx11_3:pg11.nx 3=[5]:=by kernel_rfl
theorem nx11_0:pg11.nx 0=[3]:=by kernel_rfl
theorem way11_6:Go.Ru.Way pg11 6 [6,1]:=.go (by rw [nx11_6];simp) way11_1
theorem way11_5:Go.Ru.Way pg11 5 [5,6,1]:=.go (by rw [nx11_5];simp) way11_6
theorem way11_4:Go.Ru.Way pg11 4 [4,6,1]:=.go (by rw [nx11_4];simp) way11_6
theorem way11_3:Go.Ru.Way pg11 3 [3,5,6,1]:=.go (by rw [nx11_3];simp) way11_5
theorem way11_0:Go.Ru.Way pg11 0 [0,3,5,6,1]:=.go (by rw [nx11_0];simp) way11_3
theorem live11:∀ i,i<7→∃ l,Go.Ru.Way pg11 i l:=fun i hi=>by
 rcases i with _|_|_|_|_|_|_|i
 ·exact⟨_,way11_0⟩
 ·exact⟨_,way11_1⟩
 ·exact⟨_,way11_2⟩
 ·exact⟨_,way11_3⟩
 ·exact⟨_,way11_4⟩
 ·exact⟨_,way11_5⟩
 ·exact⟨_,way11_6⟩
 ·omega
def in11 (i:Nat):Bool:=(wayN (bs11.f (([0,1,2,3,4,5,6]:List Int).getD i 0).toNat)).all fun y=>(posL y [0,1,2,3,4,5,6]).isSome
theorem good11:GoodP bs11 0 where
 lo:=Int.le_refl _
 hi:=by decide
 ok:=by
  rw [nds11]
  refine⟨fun i hi=>?_,fun i hi=>live11 i hi⟩
  have h:(List.range 7).all in11=true:=by kernel_rfl
  have:=List.all_eq_true.1 h i (List.mem_range.2 hi)
  exact List.all_eq_true.1 this
theorem near_eq {M:PM} (h:PMok M) {i k:Nat} (hi:i<M.g.n) (hk:PD M.g i k) (hne:k≠i) (hm:∀ m,PD M.g i m→m≠i→PD M.g k m):M.nx i=some k:=by
 cases e:M.nx i with
 | none=>exact absurd ((h.nxt.near i hi).none e k hk) hne
 | some j =>
  obtain⟨h1,h2,h3⟩:=(h.nxt.near i hi).some j e
  exact congrArg some (PD.anti (h.ok.live j (h2.rng h.ok hi)) (h3 k hk hne) (hm j h2 h1))
structure N11 (M:PM):Prop where
 k:PMk M
 in_:nextM M 3=5
 br:nextM M 5=6
 a:nextM M 4=6
 b:nextM M 6=1
 ex:nextM M 1=-1
theorem n11 {M:PM} (h:PMof bs11 0 M):N11 M:=by
 have hN:M.N=[0,1,2,3,4,5,6]:=h.N.trans nds11
 have hg:M.g=pg11:=by rw [h.g,hN];rfl
 have ok:=h.ok
 have hn:M.g.n=7:=by rw [hg];rfl
 have e3:M.nx 3=some 5:=one_next ok (by omega) (by rw [hg];kernel_rfl) (fun k=>by rw [hg,nx11_3];simp) (by decide)
 have e4:M.nx 4=some 6:=one_next ok (by omega) (by rw [hg];kernel_rfl) (fun k=>by rw [hg,nx11_4];simp) (by decide)
 have e6:M.nx 6=some 1:=one_next ok (by omega) (by rw [hg];kernel_rfl) (fun k=>by rw [hg,nx11_6];simp) (by decide)
 have e1:M.nx 1=none:=end_next ok (by omega) (by rw [hg];kernel_rfl)
 have e5:M.nx 5=some 6:=by
  have h46:PD M.g 4 6:=(pd_fix _ _ _).2 (.inr ⟨by rw [hg];kernel_rfl,fun j hj=>by
   rw [hg,nx11_4] at hj;rw [List.mem_singleton.1 hj];exact .refl _ _⟩)
  have h61:PD M.g 6 1:=(pd_fix _ _ _).2 (.inr ⟨by rw [hg];kernel_rfl,fun j hj=>by
   rw [hg,nx11_6] at hj;rw [List.mem_singleton.1 hj];exact .refl _ _⟩)
  refine near_eq ok (by omega) ((pd_fix _ _ _).2 (.inr ⟨by rw [hg];kernel_rfl,fun j hj=>?_⟩)) (by decide) fun m hm hne=>?_
  ·rw [hg,nx11_5] at hj
   rcases List.mem_cons.1 hj with rfl|hj
   ·exact h46
   ·rw [List.mem_singleton.1 hj];exact .refl _ _
  ·have:=hm _ (hg▸way11_5)
   simp only [List.mem_cons,List.not_mem_nil,or_false] at this
   rcases this with rfl|rfl|rfl
   ·exact absurd rfl hne
   ·exact .refl _ _
   ·exact h61
 have hl:M.N.length<4096:=by rw [hN];decide
 refine⟨⟨ok,hl⟩,?_,?_,?_,?_,?_⟩
 ·unfold nextM
  rw [show posL 3 M.N=some 3 by rw [hN];kernel_rfl]
  simp only [e3,hN];rfl
 ·unfold nextM
  rw [show posL 5 M.N=some 5 by rw [hN];kernel_rfl]
  simp only [e5,hN];rfl
 ·unfold nextM
  rw [show posL 4 M.N=some 4 by rw [hN];kernel_rfl]
  simp only [e4,hN];rfl
 ·unfold nextM
  rw [show posL 6 M.N=some 6 by rw [hN];kernel_rfl]
  simp only [e6,hN];rfl
 ·unfold nextM
  rw [show posL 1 M.N=some 1 by rw [hN];kernel_rfl]
  simp only [e1]
def gS11:AG:=gput 42 (cTop proS) (gput 21 eBuildL (gput 22 (eEnds 2) (gput 14 cPoNew (gput 19 cPoNext g0))))
theorem gS11_ok:GOk Tryz.prog gS11:=gput_ok Program_ok (gput_ok eBuildL_ok (gput_ok exit_ok (gput_ok poNew_ok (gput_ok poNext_ok g0_ok))))
theorem shown11_ok:COk 12 cShown7:=by
 rintro args K k ⟨rfl,hk⟩
 refine frame0P gS11_ok 19 rfl fun Q hr=>?_
 conv=>whnf
 refine⟨tx11,rfl,by decide,?_⟩
 rw [pr11_eq]
 conv=>whnf
 refine⟨pr11,17,0,_,bs11,rfl,pr11_tame,ck11_eq,rfl,bs11_n,bs11_ps,fun i hi=>bs11_f i (by rw [bs11_n] at hi;exact hi),?_⟩
 conv=>whnf
 refine⟨bs11,0,rfl,by decide,short11,fun M hM=>?_,fun h=>absurd good11 h⟩
 have n:=n11 hM
 clear hM
 conv=>whnf
 repeat (refine Chk.mk ⟨by decide,by decide,rfl⟩ ?_;conv=>whnf)
 refine⟨M,3,5,rfl,n.k,n.in_,?_⟩
 conv=>whnf
 repeat (refine Chk.mk ⟨by decide,by decide,rfl⟩ ?_;conv=>whnf)
 refine⟨M,5,6,rfl,n.k,n.br,?_⟩
 conv=>whnf
 refine⟨M,4,6,rfl,n.k,n.a,?_⟩
 conv=>whnf
 refine⟨M,6,1,rfl,n.k,n.b,?_⟩
 conv=>whnf
 refine And.intro ?_ ?_
 ·(conv=>whnf)
 conv=>whnf
 refine⟨bs11,0,1,rfl,by decide,by kernel_rfl,?_⟩
 conv=>whnf
 refine⟨bs11,0,1,rfl,by decide,by kernel_rfl,?_⟩
 conv=>whnf
 refine⟨M,1,-1,rfl,n.k,n.ex,?_⟩
 conv=>whnf
 exact hr _ _ rfl hk
def gPq:AG:=gput 12 cShown7 (gput 13 cSmG (gput 14 cPoNew (gput 15 cNodes (gput 20 cAmong11 (gput 25 cPasses (gput 16 cChain g0))))))
theorem gPq_ok:GOk Tryz.prog gPq:=gput_ok shown11_ok (gput_ok small11_ok (gput_ok poNew_ok (gput_ok nodes_ok (gput_ok among11_ok (gput_ok passes_ok (gput_ok chain_ok g0_ok))))))
theorem order_calls (s:BSt) (proc a b c:Int) (K:List ABlk) (k:AO→List ABlk→Prop) (hk:k (.ret (.p (.bool true))) K):ACalls Tryz.prog 6 [graphW s,intV proc,intV a,intV b,intV c] K k:=by
 refine frame0P gPq_ok 19 rfl fun Q hr=>?_
 conv=>whnf
 refine⟨rfl,?_⟩
 conv=>whnf
 refine⟨s,rfl,fun hs=>?_,?_⟩
 rotate_left
 ·conv=>whnf
  exact hr _ _ rfl hk
 conv=>whnf
 refine⟨s,proc,rfl,by have:=hs.n;omega,fun x hx=>by have:=hs.nx x hx;omega,fun M hM=>?_,fun h=>?_⟩
 rotate_left
 ·conv=>whnf
  exact hr _ _ rfl hk
 have hN:M.N.length<4096:=by have h1:=hs.n;have h2:=ndsP_len s.f proc s.n;rw [← hM.N] at h2;omega
 have hk1:PMk M:=⟨hM.ok,hN⟩
 conv=>whnf
 refine⟨M,rfl,hk1,?_⟩
 conv=>whnf
 refine⟨M.N,a,_,rfl,by omega,rfl,?_⟩
 conv=>whnf
 refine two_dec (fun ha=>?_) (fun ha=>?_)
 ·have ha:a∈M.N:=ha
  obtain⟨o1,o2,o3⟩:=order1 hM.ok ha
  have hla:=chain_len hk1 a
  conv=>whnf
  refine⟨M,a,a,true,rfl,hk1,o1,?_⟩
  conv=>whnf
  refine⟨M,a,-1,true,rfl,hk1,o2,?_⟩
  conv=>whnf
  refine⟨M,a,rfl,hk1,?_⟩
  conv=>whnf
  refine⟨chainM M a,a,true,rfl,by omega,decide_eq_true o3,?_⟩
  conv=>whnf
  cases e1:passM M a b with
  | true =>
   refine two_ne (fun hab=>?_) (fun hab=>?_)
   ·have hab:a≠b:=hab
    have e2:passM M b a=false:=by
     cases h:passM M b a with
     | false=>rfl
     | true=>exact (order2 hM.ok hab e1 h).elim
    conv=>whnf
    refine⟨M,a,b,true,rfl,hk1,e1,?_⟩
    conv=>whnf
    refine⟨M,b,a,false,rfl,hk1,e2,?_⟩
    conv=>whnf
    refine⟨M,a,b,true,rfl,hk1,e1,?_⟩
    conv=>whnf
    refine⟨M,b,c,_,rfl,hk1,rfl,?_⟩
    conv=>whnf
    refine two_intro (fun h3=>?_) (fun h3=>?_)
    ·have h3:passM M b c=true:=h3
     conv=>whnf
     refine⟨M,a,c,true,rfl,hk1,order3 hM.ok e1 h3,?_⟩
     conv=>whnf
     refine two_eq (fun hb=>?_) (fun hb=>?_)
     ·conv=>whnf
      exact hr _ _ rfl hk
     ·have hb:b≠-1:=hb
      have hla:=chain_len hk1 a
      conv=>whnf
      refine⟨M,a,b,_,rfl,hk1,order4 hM.ok hb,?_⟩
      conv=>whnf
      refine⟨M,a,rfl,hk1,?_⟩
      conv=>whnf
      refine⟨chainM M a,b,_,rfl,by omega,rfl,?_⟩
      conv=>whnf
      have hbb:(decide (b∈chainM M a)==decide (b∈chainM M a))=true:=beq_self_eq_true _
      rw [← hbb] at hk
      exact hr _ _ rfl hk
    ·conv=>whnf
     refine two_eq (fun hb=>?_) (fun hb=>?_)
     ·conv=>whnf
      exact hr _ _ rfl hk
     ·have hb:b≠-1:=hb
      have hla:=chain_len hk1 a
      conv=>whnf
      refine⟨M,a,b,_,rfl,hk1,order4 hM.ok hb,?_⟩
      conv=>whnf
      refine⟨M,a,rfl,hk1,?_⟩
      conv=>whnf
      refine⟨chainM M a,b,_,rfl,by omega,rfl,?_⟩
      conv=>whnf
      have hbb:(decide (b∈chainM M a)==decide (b∈chainM M a))=true:=beq_self_eq_true _
      rw [← hbb] at hk
      exact hr _ _ rfl hk
   ·conv=>whnf
    refine⟨M,a,b,true,rfl,hk1,e1,?_⟩
    conv=>whnf
    refine⟨M,b,c,_,rfl,hk1,rfl,?_⟩
    conv=>whnf
    refine two_intro (fun h3=>?_) (fun h3=>?_)
    ·have h3:passM M b c=true:=h3
     conv=>whnf
     refine⟨M,a,c,true,rfl,hk1,order3 hM.ok e1 h3,?_⟩
     conv=>whnf
     refine two_eq (fun hb=>?_) (fun hb=>?_)
     ·conv=>whnf
      exact hr _ _ rfl hk
     ·have hb:b≠-1:=hb
      have hla:=chain_len hk1 a
      conv=>whnf
      refine⟨M,a,b,_,rfl,hk1,order4 hM.ok hb,?_⟩
      conv=>whnf
      refine⟨M,a,rfl,hk1,?_⟩
      conv=>whnf
      refine⟨chainM M a,b,_,rfl,by omega,rfl,?_⟩
      conv=>whnf
      have hbb:(decide (b∈chainM M a)==decide (b∈chainM M a))=true:=beq_self_eq_true _
      rw [← hbb] at hk
      exact hr _ _ rfl hk
    ·conv=>whnf
     refine two_eq (fun hb=>?_) (fun hb=>?_)
     ·conv=>whnf
      exact hr _ _ rfl hk
     ·have hb:b≠-1:=hb
      have hla:=chain_len hk1 a
      conv=>whnf
      refine⟨M,a,b,_,rfl,hk1,order4 hM.ok hb,?_⟩
      conv=>whnf
      refine⟨M,a,rfl,hk1,?_⟩
      conv=>whnf
      refine⟨chainM M a,b,_,rfl,by omega,rfl,?_⟩
      conv=>whnf
      have hbb:(decide (b∈chainM M a)==decide (b∈chainM M a))=true:=beq_self_eq_true _
      rw [← hbb] at hk
      exact hr _ _ rfl hk
  | false =>
   refine two_ne (fun hab=>?_) (fun hab=>?_)
   ·conv=>whnf
    refine⟨M,a,b,false,rfl,hk1,e1,?_⟩
    conv=>whnf
    refine⟨M,a,b,false,rfl,hk1,e1,?_⟩
    conv=>whnf
    refine two_eq (fun hb=>?_) (fun hb=>?_)
    ·conv=>whnf
     exact hr _ _ rfl hk
    ·have hb:b≠-1:=hb
     have hla:=chain_len hk1 a
     conv=>whnf
     refine⟨M,a,b,_,rfl,hk1,order4 hM.ok hb,?_⟩
     conv=>whnf
     refine⟨M,a,rfl,hk1,?_⟩
     conv=>whnf
     refine⟨chainM M a,b,_,rfl,by omega,rfl,?_⟩
     conv=>whnf
     have hbb:(decide (b∈chainM M a)==decide (b∈chainM M a))=true:=beq_self_eq_true _
     rw [← hbb] at hk
     exact hr _ _ rfl hk
   ·conv=>whnf
    refine⟨M,a,b,false,rfl,hk1,e1,?_⟩
    conv=>whnf
    refine two_eq (fun hb=>?_) (fun hb=>?_)
    ·conv=>whnf
     exact hr _ _ rfl hk
    ·have hb:b≠-1:=hb
     have hla:=chain_len hk1 a
     conv=>whnf
     refine⟨M,a,b,_,rfl,hk1,order4 hM.ok hb,?_⟩
     conv=>whnf
     refine⟨M,a,rfl,hk1,?_⟩
     conv=>whnf
     refine⟨chainM M a,b,_,rfl,by omega,rfl,?_⟩
     conv=>whnf
     have hbb:(decide (b∈chainM M a)==decide (b∈chainM M a))=true:=beq_self_eq_true _
     rw [← hbb] at hk
     exact hr _ _ rfl hk
 ·have ha:a ∉ M.N:=ha
  conv=>whnf
  cases e1:passM M a b with
  | true =>
   refine two_ne (fun hab=>?_) (fun hab=>?_)
   ·have hab:a≠b:=hab
    have e2:passM M b a=false:=by
     cases h:passM M b a with
     | false=>rfl
     | true=>exact (order2 hM.ok hab e1 h).elim
    conv=>whnf
    refine⟨M,a,b,true,rfl,hk1,e1,?_⟩
    conv=>whnf
    refine⟨M,b,a,false,rfl,hk1,e2,?_⟩
    conv=>whnf
    refine⟨M,a,b,true,rfl,hk1,e1,?_⟩
    conv=>whnf
    refine⟨M,b,c,_,rfl,hk1,rfl,?_⟩
    conv=>whnf
    refine two_intro (fun h3=>?_) (fun h3=>?_)
    ·have h3:passM M b c=true:=h3
     conv=>whnf
     refine⟨M,a,c,true,rfl,hk1,order3 hM.ok e1 h3,?_⟩
     conv=>whnf
     refine two_eq (fun hb=>?_) (fun hb=>?_)
     ·conv=>whnf
      exact hr _ _ rfl hk
     ·have hb:b≠-1:=hb
      have hla:=chain_len hk1 a
      conv=>whnf
      refine⟨M,a,b,_,rfl,hk1,order4 hM.ok hb,?_⟩
      conv=>whnf
      refine⟨M,a,rfl,hk1,?_⟩
      conv=>whnf
      refine⟨chainM M a,b,_,rfl,by omega,rfl,?_⟩
      conv=>whnf
      have hbb:(decide (b∈chainM M a)==decide (b∈chainM M a))=true:=beq_self_eq_true _
      rw [← hbb] at hk
      exact hr _ _ rfl hk
    ·conv=>whnf
     refine two_eq (fun hb=>?_) (fun hb=>?_)
     ·conv=>whnf
      exact hr _ _ rfl hk
     ·have hb:b≠-1:=hb
      have hla:=chain_len hk1 a
      conv=>whnf
      refine⟨M,a,b,_,rfl,hk1,order4 hM.ok hb,?_⟩
      conv=>whnf
      refine⟨M,a,rfl,hk1,?_⟩
      conv=>whnf
      refine⟨chainM M a,b,_,rfl,by omega,rfl,?_⟩
      conv=>whnf
      have hbb:(decide (b∈chainM M a)==decide (b∈chainM M a))=true:=beq_self_eq_true _
      rw [← hbb] at hk
      exact hr _ _ rfl hk
   ·conv=>whnf
    refine⟨M,a,b,true,rfl,hk1,e1,?_⟩
    conv=>whnf
    refine⟨M,b,c,_,rfl,hk1,rfl,?_⟩
    conv=>whnf
    refine two_intro (fun h3=>?_) (fun h3=>?_)
    ·have h3:passM M b c=true:=h3
     conv=>whnf
     refine⟨M,a,c,true,rfl,hk1,order3 hM.ok e1 h3,?_⟩
     conv=>whnf
     refine two_eq (fun hb=>?_) (fun hb=>?_)
     ·conv=>whnf
      exact hr _ _ rfl hk
     ·have hb:b≠-1:=hb
      have hla:=chain_len hk1 a
      conv=>whnf
      refine⟨M,a,b,_,rfl,hk1,order4 hM.ok hb,?_⟩
      conv=>whnf
      refine⟨M,a,rfl,hk1,?_⟩
      conv=>whnf
      refine⟨chainM M a,b,_,rfl,by omega,rfl,?_⟩
      conv=>whnf
      have hbb:(decide (b∈chainM M a)==decide (b∈chainM M a))=true:=beq_self_eq_true _
      rw [← hbb] at hk
      exact hr _ _ rfl hk
    ·conv=>whnf
     refine two_eq (fun hb=>?_) (fun hb=>?_)
     ·conv=>whnf
      exact hr _ _ rfl hk
     ·have hb:b≠-1:=hb
      have hla:=chain_len hk1 a
      conv=>whnf
      refine⟨M,a,b,_,rfl,hk1,order4 hM.ok hb,?_⟩
      conv=>whnf
      refine⟨M,a,rfl,hk1,?_⟩
      conv=>whnf
      refine⟨chainM M a,b,_,rfl,by omega,rfl,?_⟩
      conv=>whnf
      have hbb:(decide (b∈chainM M a)==decide (b∈chainM M a))=true:=beq_self_eq_true _
      rw [← hbb] at hk
      exact hr _ _ rfl hk
  | false =>
   refine two_ne (fun hab=>?_) (fun hab=>?_)
   ·conv=>whnf
    refine⟨M,a,b,false,rfl,hk1,e1,?_⟩
    conv=>whnf
    refine⟨M,a,b,false,rfl,hk1,e1,?_⟩
    conv=>whnf
    refine two_eq (fun hb=>?_) (fun hb=>?_)
    ·conv=>whnf
     exact hr _ _ rfl hk
    ·have hb:b≠-1:=hb
     have hla:=chain_len hk1 a
     conv=>whnf
     refine⟨M,a,b,_,rfl,hk1,order4 hM.ok hb,?_⟩
     conv=>whnf
     refine⟨M,a,rfl,hk1,?_⟩
     conv=>whnf
     refine⟨chainM M a,b,_,rfl,by omega,rfl,?_⟩
     conv=>whnf
     have hbb:(decide (b∈chainM M a)==decide (b∈chainM M a))=true:=beq_self_eq_true _
     rw [← hbb] at hk
     exact hr _ _ rfl hk
   ·conv=>whnf
    refine⟨M,a,b,false,rfl,hk1,e1,?_⟩
    conv=>whnf
    refine two_eq (fun hb=>?_) (fun hb=>?_)
    ·conv=>whnf
     exact hr _ _ rfl hk
    ·have hb:b≠-1:=hb
     have hla:=chain_len hk1 a
     conv=>whnf
     refine⟨M,a,b,_,rfl,hk1,order4 hM.ok hb,?_⟩
     conv=>whnf
     refine⟨M,a,rfl,hk1,?_⟩
     conv=>whnf
     refine⟨chainM M a,b,_,rfl,by omega,rfl,?_⟩
     conv=>whnf
     have hbb:(decide (b∈chainM M a)==decide (b∈chainM M a))=true:=beq_self_eq_true _
     rw [← hbb] at hk
     exact hr _ _ rfl hk
end Go.Proofs.YtcmepkfefoidcaaGreatDoor
