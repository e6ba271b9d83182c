/-
  THE CARD OF PostCommon.
  It stands on the parts before.
-/
import Derived.Test.YtcmepkfefoidcaaGreatDoorRows
import Derived.Shelf.Vars
import Derived.ProofKit
import Derived.LaidMore
import Derived.LaidSub
import Derived.Lib.LaidTab
import Derived.ReadAgain
import Derived.ChangeOld
import Derived.Deep.Slices
import Derived.Handed
import Derived.ChangeMaps5
import Derived.LaidOnce
import Derived.Stop.Joined
import Derived.Test.YtcmepkfefoidcaaGreatDoorTie
import Derived.Test.YtcmepkfefoidcaaGreatDoorCards
import Derived.SevenTiedAt
import Derived.Test.YtcmepkfefoidcaaGreatDoorPk4
import Derived.Test.YtcmepkfefoidcaaGreatDoorPk5
import Derived.Test.YtcmepkfefoidcaaGreatDoorPk7
import Derived.Test.YtcmepkfefoidcaaGreatDoorPk9
set_option linter.unusedVariables false
set_option linter.unusedSimpArgs false
namespace Go.Proofs.YtcmepkfefoidcaaGreatDoor
open Go.AE Go.Ru Go.RowKit Go.Deep Go.ChangeShapes
set_option maxRecDepth 100000
theorem maxLen_of {w:World} (h:w.ShapedOpen Tryz.prog):∃ n,w.cell? ⟨1,0,none⟩=some (.int .i64 n) :=
 Go.Proofs.cell_of_shapedOpen_int (zero:=#[.int .i64 0]) (t:=3) h (of_decide_eq_true (by kernel_rfl)) (by kernel_rfl) rfl (by kernel_rfl) (by kernel_rfl) Tryz.underlying3
theorem reads_of {P:Program} {w:World}:∀ {l:List (String×DataW Unit)} {ps:List MemPlace},DataW.LaidVars P w l ps→∀ n d,(n,d)∈l →
  ∃ g t cs fuel p,P.globalNamed n=some g∧(P.globals[g]?).map (·.type)=some t∧w.var? P n=some cs∧DataW.trod (fun _=>()) P w 0 (fun _=>true) false fuel t cs.toList=some (d,p)
 | [],_,_,_,_,hm=>by cases hm
 | (n',d')::r,ps,h,n,d,hm=>by
  obtain⟨g,t,cs,fuel,p,q,h1,h2,h3,h4,h5,_⟩:=h
  rcases List.mem_cons.1 hm with e|e
  ·cases e
   exact⟨g,t,cs,fuel,p,h1,h2,h3,h4⟩
  ·exact reads_of h5 n d e
theorem iface_of {P:Program} {w:World} {name:String} {g:Nat} {t:TypeId} {ms:Array (String×TypeId)} {l:List (String×DataW Unit)} {d:DataW Unit} (hg:P.globalNamed name=some g) (hty:(P.globals[g]?).map (·.type)=some t) (hu:P.underlying t=some (.interface ms))
  (h:laidMet P l w) (hm:(name,d)∈l):∃ v,w.cell? ⟨g,0,none⟩=some v∧(v=.nilIface∨∃ te pe,v=.iface te pe):=by
 obtain⟨ps,hv,_⟩:=h
 obtain⟨g',t',cs,fuel,p,h1,h2,h3,h4⟩:=reads_of hv name d hm
 obtain rfl:=Option.some.inj (hg.symm.trans h1)
 obtain rfl:=Option.some.inj (hty.symm.trans h2)
 have hc:=World.var?_cell hg h3 0
 cases fuel with
 | zero=>simp [DataW.trod] at h4
 | succ fuel =>
  obtain⟨l⟩:=cs
  simp only at h4 hc
  match l,h4,hc with
  | [],h4,_=>simp [DataW.trod,hu] at h4
  | [v],h4,hc =>
   refine⟨v,by simpa using hc,?_⟩
   cases v<;>simp [DataW.trod,hu] at h4<;>simp
  | v::v'::r,h4,_=>cases v<;>simp [DataW.trod,hu] at h4
def laidAll : List (String × DataW Unit) := [("math/bits.deBruijn32tab", Rows.laid_math_bits_deBruijn32tab), ("math/bits.deBruijn64tab", Rows.laid_math_bits_deBruijn64tab), ("internal/strconv.uint64pow10", Rows.laid_internal_strconv_uint64pow10), ("strconv.ErrRange", Rows.laid_strconv_ErrRange), ("strconv.ErrSyntax", Rows.laid_strconv_ErrSyntax)]
theorem deB_of {w : World} (h' : laidMet Tryz.prog laidAll w) : Lib.TabIs Tryz.prog w "math/bits.deBruijn64tab" .u8 deTab := by
 have hf := laidMet.filter (fun x => x.1 == "math/bits.deBruijn64tab") h'
 have e : laidAll.filter (fun x => x.1 == "math/bits.deBruijn64tab") = [("math/bits.deBruijn64tab", Lib.tabData .u8 deTab)] := by kernel_rfl
 rw [e] at hf
 exact Lib.tabIs_of_head (g:=0) (t:=233) (e:=5) (n:=64) (by kernel_rfl) (by kernel_rfl) (by kernel_rfl) (by kernel_rfl) (by kernel_rfl) (by kernel_rfl) hf
theorem gfacts_of {w:World} {L:List (String×DataW Unit)} (hL:L=laidAll) (hs:w.ShapedOpen Tryz.prog) (h:laidMetH Tryz.prog L w):GFacts w:=by
 subst hL
 have h':laidMet Tryz.prog laidAll w:=h
 have h1:=maxLen_of hs
 have h5:=deB_of h'
 refine⟨trivial,h1,?_,?_,?_
  ,h5
  ⟩
 ·exact iface_of (name := "strconv.ErrSyntax") (d := Rows.laid_strconv_ErrSyntax) (t := 227) (by kernel_rfl) (by kernel_rfl) Tryz.underlying227 h' (by simp [laidAll])
 ·exact iface_of (name := "strconv.ErrRange") (d := Rows.laid_strconv_ErrRange) (t := 227) (by kernel_rfl) (by kernel_rfl) Tryz.underlying227 h' (by simp [laidAll])
 ·have hf := laidMet.filter (fun x => x.1 == "internal/strconv.uint64pow10") h'
  have e : laidAll.filter (fun x => x.1 == "internal/strconv.uint64pow10") = [("internal/strconv.uint64pow10", Lib.tabData .u64 Lib.pow10Tab)] := by kernel_rfl
  rw [e] at hf
  exact Lib.tabIs_of_head (g:=4) (t:=283) (e:=85) (n:=20) (by kernel_rfl) (by kernel_rfl) (by kernel_rfl) (by kernel_rfl) (by kernel_rfl) (by kernel_rfl) hf
def mpA (w:World):Mp:=⟨fun _=>0,fun b=>b<w.heap.size,fun _=>.absent⟩
theorem lt_of_cell {w:World} {b o:Nat} {v:Value} (h:w.cell? ⟨b,o,none⟩=some v):b<w.heap.size:=by
 unfold World.cell? at h
 cases hb:w.heap[b]? with
 | none=>simp [hb] at h
 | some x=>exact (Array.getElem?_eq_some_iff.1 hb).1
theorem isG_lt {w:World} (hg:GFacts w):∀ b,isG b→b<w.heap.size:=by
 intro b hb
 obtain⟨n,h1⟩:=hg.maxLen
 obtain⟨v,h2,_⟩:=hg.errSyntax
 obtain⟨v',h3,_⟩:=hg.errRange
 have h4:=hg.pow10.cell (g:=4) (by kernel_rfl) 0 (by rw [Lib.pow10Tab_length];omega)
 have h5:=hg.deB.cell (g:=0) (by kernel_rfl) 0 (by decide)
 unfold isG at hb
 repeat' (rcases hb with hb|hb)
 all_goals first
  | (exact lt_of_cell h1)
  | (exact lt_of_cell h2)
  | (exact lt_of_cell h3)
  | (exact lt_of_cell h4)
  | (exact lt_of_cell h5)
theorem stA {w:World} (hg:GFacts w):St w (mpA w) (hp []) :=
 ⟨fun r _ h=>h.elim,fun r h=>h.elim,fun r h=>h.elim,fun b h=>h,⟨isG_lt hg,hg⟩,fun r=>rfl⟩
theorem calls_true {f:FuncId} {w:World} {Args:Array Value} {args:List AV} (hg:GFacts w) (hV:VL w (mpA w) args Args) (h:ACalls Tryz.prog f args [] (fun ao _=>ao=.ret (.p (.bool true)))) :
  Calls Tryz.prog f Args w fun e w'=>e=.returned (.bool true)∧w'.os=w.os∧w'.tape=w.tape∧w'.output=w.output∧w.heap.size≤w'.heap.size∧∀ b,b<w.heap.size→w'.heap[b]?=w.heap[b]?:=by
 refine (h.2 w (mpA w) Args (stA hg) hV).mono fun e w' hR=>?_
 cases e with
 | returned u =>
  obtain⟨m',a,K',hT,hS,hv,hk⟩:=hR
  injection hk with hk
  subst hk
  refine⟨?_,hT.os,hT.tape,hT.output,hT.size,fun b hb=>hT.out b hb fun r hr=>hr.elim⟩
  cases hv with
  | p _ _ h=>cases h;rfl
 | panicked ch=>obtain⟨m',a,u,K',_,_,_,_,hk⟩:=hR;cases hk
 | outgrown=>exact hR.elim
section
variable {H:Type} {enc:TypeId×Value→H} {P:Program} {w w':World}
theorem sameAt_of (hh:∀ b,b<w.heap.size→w'.heap[b]?=w.heap[b]?) (p:MemPlace) (hp:p.block<w.heap.size):w.sameAt w' p:=by
 cases p with
 | cell b off =>
  show w'.cell? _=w.cell? _
  unfold World.cell?
  rw [show w'.heap[b]?=w.heap[b]? from hh b hp]
 | map b=>exact hh b hp
theorem trodAll_carry {base:Nat} {spare:Nat→Bool} {held:Bool}:∀ {ts:List TypeId} {vs:List Value} {ds:List (DataW H)} {ps:List MemPlace},DataW.TrodAll enc P w base spare held ts vs ds ps→(∀ p∈ps,w.sameAt w' p)→DataW.TrodAll enc P w' base spare held ts vs ds ps
 | [],[],[],_,h,_=>h
 | _::_,_::_,_::_,_,⟨a,b,⟨n,h1⟩,h2,e⟩,hs=>by
  subst e
  exact⟨a,b,⟨n,DataW.trod_carry n _ _ _ h1 fun p hp=>hs p (List.mem_append_left _ hp)⟩,trodAll_carry h2 fun p hp=>hs p (List.mem_append_right _ hp),rfl⟩
theorem trodAll_kept {ts:List TypeId} {vs:List Value} {ds:List (DataW H)} {ps:List MemPlace} (hts:∀ t∈ts,t<Tryz.prog.types.size) (hh:∀ b,b<w.heap.size→w'.heap[b]?=w.heap[b]?)
  (h:DataW.TrodAll enc Tryz.prog w 0 (fun _=>true) true ts vs ds ps):DataW.TrodAll enc Tryz.prog w' 0 (fun b=>decide (b<w.heap.size)) true ts vs ds ps :=
 DataW.TrodAll.respare (T:=(·<Tryz.prog.types.size)) (kids_rows (by kernel_rfl) (by kernel_rfl)) (slices_full_of Tryz.prog (by kernel_rfl)) hts (trodAll_carry h fun p hp=>sameAt_of hh p (DataW.TrodAll.lt h p hp)) fun p hp=>decide_eq_true (DataW.TrodAll.lt h p hp)
end
section
variable {H:Type} {enc:TypeId×Value→H} {w:World}
theorem add_at {a:Addr} (h:a.spot=none) (i:Nat):a.add i=⟨a.block,a.off+i,none⟩:=by
 obtain⟨b,o,s⟩:=a
 simp only at h
 subst h
 unfold Addr.add
 by_cases h:i=0<;>simp [h]
theorem open_kids {n:Nat} {u:Value} {x:DataW H×List MemPlace} (h:DataW.trod enc Tryz.prog w 0 (fun _=>true) true n 23 [u]=some x):∃ ks:List Int,VP w (mpA w).I (.sl 1 ks.length (kidF ks)) u:=by
 rcases open_ints Tryz.underlying23 Tryz.underlying3 (by kernel_rfl) h with ⟨h1,_⟩|⟨a,len,cap,zs,h1,_,hl,hm,hz,_,hc,_⟩
 ·injection h1 with h1
  subst h1
  exact⟨[],.sl0 1 _ none 0⟩
 ·injection h1 with h1
  subst h1
  simp only [if_true] at hz
  refine⟨zs.take len,?_⟩
  have hlen:(zs.take len).length=len:=by rw [List.length_take];omega
  rw [hlen]
  cases len with
  | zero=>exact .sl0 1 _ (some a) cap
  | succ len =>
   have hsp:=World.cell?_spot (hc 0 (by omega))
   have hs:a.spot=none:=by
    unfold Addr.add at hsp
    simpa using hsp
   have hcell:∀ i,i<len+1→w.cell? ⟨a.block,a.off+i,none⟩=some (.int .i64 (zs.getD i 0)):=fun i hi=>by rw [← add_at hs];exact hc i (by omega)
   obtain⟨b,o,s⟩:=a
   simp only at hs
   subst hs
   refine .sl 1 (len+1) _ b o cap (fun i _=>.int .i64 (zs.getD i 0)) (lt_of_cell (hcell 0 (by omega))) ⟨hl,by omega⟩ (fun i hi j hj=>?_) fun i hi j hj=>?_
   ·obtain rfl:j=0:=by simpa [kidF] using hj
    rw [Nat.mul_one,Nat.add_zero]
    exact hcell i hi
   ·obtain rfl:j=0:=by simpa [kidF] using hj
    have:(zs.take (len+1)).getD i 0=zs.getD i 0:=by
     rw [List.getD_eq_getElem?_getD,List.getElem?_take,if_pos hi,List.getD_eq_getElem?_getD]
    simp only [kidF,List.getElem_cons_zero]
    rw [this]
    exact .int _ _
end
end Go.Proofs.YtcmepkfefoidcaaGreatDoor
namespace Go.Proofs.YtcmepkfefoidcaaGreatDoor
open Go.AE Go.Ru Go.RowKit Go.Deep Go.ChangeShapes
set_option maxRecDepth 100000
section
variable {H:Type} {enc:TypeId×Value→H} {w:World}
theorem open_gn {n:Nat} {cs:List Value} {x:DataW H×List MemPlace} (h:DataW.trod enc Tryz.prog w 0 (fun _=>true) true n 44 cs=some x) :
  ∃ nd:GN,cs.length=5∧∀ j (hj:j<5),∃ u,cs[j]?=some u∧VP w (mpA w).I ((gnW (fun _=>nd) 0)[j]'hj) u:=by
 obtain⟨xs,m,_,_,hl,hxl,hf⟩:=DataW.trod_struct Tryz.underlying44 h
 rw [show Tryz.prog.cellsOf 44=5 by kernel_rfl] at hl
 have hxl:xs.length=5:=hxl
 have c3:Tryz.prog.cellsOf 3=1:=by kernel_rfl
 have c30:Tryz.prog.cellsOf 23=1:=by kernel_rfl
 match cs,hl,xs,hxl with
 | [c0,c1,c2,c3',c4],_,[x0,x1,x2,x3,x4],_ =>
  have f0:=hf 0 _ rfl
  have f1:=hf 1 _ rfl
  have f2:=hf 2 _ rfl
  have f3:=hf 3 _ rfl
  have f4:=hf 4 _ rfl
  simp only [c3,c30,List.drop_zero,List.drop_succ_cons,List.take_succ_cons,List.take_zero,List.getElem?_cons_zero,List.getElem?_cons_succ] at f0 f1 f2 f3 f4
  obtain⟨k,h0,_⟩:=DataW.trod_int Tryz.underlying3 f0
  obtain⟨nn,h1,_⟩:=DataW.trod_int Tryz.underlying3 f1
  obtain⟨na,h2,_⟩:=DataW.trod_int Tryz.underlying3 f2
  obtain⟨ks,h3⟩:=open_kids f3
  obtain⟨ra,h4,_⟩:=DataW.trod_int Tryz.underlying3 f4
  injection h0 with h0
  injection h1 with h1
  injection h2 with h2
  injection h4 with h4
  subst h0 h1 h2 h4
  refine⟨⟨k,nn,na,ks,ra⟩,rfl,fun j hj=>?_⟩
  rcases j with _|_|_|_|_|j
  ·exact⟨_,rfl,.int _ _⟩
  ·exact⟨_,rfl,.int _ _⟩
  ·exact⟨_,rfl,.int _ _⟩
  ·exact⟨_,rfl,h3⟩
  ·exact⟨_,rfl,.int _ _⟩
  ·omega
theorem open_gns {n:Nat} {u:Value} {x:DataW H×List MemPlace} (h:DataW.trod enc Tryz.prog w 0 (fun _=>true) true n 22 [u]=some x):∃ (m:Nat) (f:Nat→GN),VP w (mpA w).I (.sl 5 m (gnW f)) u:=by
 rcases open_slice Tryz.underlying22 h with ⟨h1,_⟩|⟨a,len,cap,m,k,D,Pl,h1,_,hl,hm,hmm,_,hx⟩
 ·injection h1 with h1
  subst h1
  exact⟨0,fun _=>default,.sl0 5 _ none 0⟩
 ·injection h1 with h1
  subst h1
  rw [show Tryz.prog.cellsOf 44=5 by kernel_rfl] at hx
  simp only [if_true] at hmm
  cases len with
  | zero=>exact⟨0,fun _=>default,.sl0 5 _ (some a) cap⟩
  | succ len =>
   have hs:a.spot=none:=by
    obtain⟨cs,hc,ht⟩:=hx 0 (by omega)
    obtain⟨_,hcl,hcc⟩:=World.cells?_some hc
    have:=hcc 0 (by omega)
    rw [List.getElem?_eq_getElem (by omega)] at this
    have:=World.cell?_spot this
    unfold Addr.add at this
    simpa using this
   have hone:∀ i,i<len+1→∃ nd:GN,∀ j (hj:j<5),∃ u,w.cell? ⟨a.block,a.off+(i*5+j),none⟩=some u∧VP w (mpA w).I ((gnW (fun _=>nd) 0)[j]'hj) u:=fun i hi=>by
    obtain⟨cs,hc,ht⟩:=hx i (by omega)
    obtain⟨_,hcl,hcc⟩:=World.cells?_some hc
    obtain⟨nd,h5,hn⟩:=open_gn ht
    refine⟨nd,fun j hj=>?_⟩
    obtain⟨u,h6,h7⟩:=hn j hj
    refine⟨u,?_,h7⟩
    have:=hcc j hj
    rw [h6,add_at hs,add_at rfl] at this
    rw [← this,Nat.add_assoc]
   obtain⟨F,hF⟩:=choose_lt hone
   refine⟨len+1,F,?_⟩
   obtain⟨b,o,s⟩:=a
   simp only at hs
   subst hs
   have hb:b<w.heap.size:=by
    obtain⟨u,h6,_⟩:=hF 0 (by omega) 0 (by omega)
    exact lt_of_cell h6
   refine .sl 5 (len+1) _ b o cap (fun i j=>(w.cell? ⟨b,o+(i*5+j),none⟩).getD undef) hb ⟨hl,by omega⟩ (fun i hi j hj=>?_) fun i hi j hj=>?_
   ·have hj5:j<5:=hj
    obtain⟨u,h6,h7⟩:=hF i hi j hj5
    show _=some ((w.cell? _).getD undef)
    rw [h6];rfl
   ·have hj5:j<5:=hj
    obtain⟨u,h6,h7⟩:=hF i hi j hj5
    rw [h6]
    exact h7
theorem open_graph {v:Value} {d:DataW H} {ps:List MemPlace} (h:DataW.Trod enc Tryz.prog w 0 (fun _=>true) true 25 v d ps):∃ s:BSt,V w (mpA w) (graphW s) v:=by
 obtain⟨n,h⟩:=h
 obtain⟨xs,m,_,_,hl,hxl,hf⟩:=DataW.trod_struct Tryz.underlying25 h
 rw [show Tryz.prog.cellsOf 25=2 by kernel_rfl] at hl
 have hxl:xs.length=2:=hxl
 have c3:Tryz.prog.cellsOf 23=1:=by kernel_rfl
 have c22:Tryz.prog.cellsOf 22=1:=by kernel_rfl
 obtain⟨A,rfl⟩:∃ A,v=.agg A:=by
  cases v with
  | agg A=>exact⟨A,rfl⟩
  | _=>simp [Value.cells] at hl
 have hl:A.toList.length=2:=by simpa [Value.cells] using hl
 have hf:∀ (i:Nat) (f:Field),_:=hf
 simp only [Value.cells] at hf
 match hA:A.toList,hl,xs,hxl with
 | [c0,c1],_,[x0,x1],_ =>
  have f0:=hf 0 _ rfl
  have f1:=hf 1 _ rfl
  simp only [hA,c3,c22,List.drop_zero,List.drop_succ_cons,List.take_succ_cons,List.take_zero,List.getElem?_cons_zero,List.getElem?_cons_succ] at f0 f1
  obtain⟨m,g,h0⟩:=open_gns f0
  obtain⟨ks,h1⟩:=open_kids f1
  refine⟨⟨m,g,fun _=>none,ks,0⟩,?_⟩
  have hsz:A.size=2:=by rw [← Array.length_toList,hA];rfl
  have h0A:A[0]'(by omega)=c0:=by rw [← Array.getElem_toList];simp [hA]
  have h1A:A[1]'(by omega)=c1:=by rw [← Array.getElem_toList];simp [hA]
  refine .agg _ A hsz.symm fun j hj hj'=>?_
  rcases j with _|_|j
  ·rw [h0A];exact .p _ _ h0
  ·rw [h1A];exact .p _ _ h1
  ·exact absurd (show j+1+1<2 from hj) (by omega)
end
end Go.Proofs.YtcmepkfefoidcaaGreatDoor
namespace Go.Proofs.YtcmepkfefoidcaaGreatDoor
open Go.AE Go.Ru Go.RowKit Go.ChangeShapes Go.WideShapes Go.ChangeAt Go.ChangeMaps
theorem seat_ownPz:ownKnob Tryz.prog.godebug=none:=by kernel_rfl
theorem door_metPz (os:Os) (args:Array Value):laidMetH Tryz.prog Rows.postCommonRow.laid ((World.doorLaid Tryz.prog 62 os).forCall (fun _ _=>0) ⟨#[],args,[]⟩).memory :=
 laidMetH_of_parts3 (fuel:=8) (laidMet_of_run' 8 (by kernel_rfl) (by kernel_rfl)) (by kernel_rfl) (by kernel_rfl)
set_option maxRecDepth 100000 in
theorem postCommon_lifted (os:Os) (started:os.Started) (H:Type) (enc:TypeId×Value→H) :
  ReturnsInHanded {} Tryz.checked os 7 .any (fun w args=>(Rows.postCommonSpec.pre enc Tryz.prog Tryz.f7 [] false w args∧laidMetH Tryz.prog Rows.postCommonRow.laid w)∧sizedMet enc Tryz.prog Tryz.f7 (OpenSpec.ofChange Rows.postCommonSpec) false w args)
   (Rows.postCommonSpec.post enc Tryz.prog Tryz.f7 false true false false):=by
 refine returnsInHanded_of_calls (C:=Tryz.checked) seat_ownPz started (by kernel_rfl) (ChangeSpec.witness_shaped (enc:=enc) (C:=Tryz.checked) (os:=os) (fn:=Tryz.f7) (X:=fun w _=>laidMetH Tryz.prog Rows.postCommonRow.laid w) false (World.doorLaid Tryz.prog 62 os) #[.agg #[.slice none 0 0,.slice none 0 0],.int .i64 0,.int .i64 0,.int .i64 0] 8 rfl (World.shaped_of_RefB (by kernel_rfl) (by kernel_rfl)) (by kernel_rfl) (by kernel_rfl) (by kernel_rfl) (door_metPz os _)) ?_
 intro w tape i _ hsh _ hok hpre hholds
 obtain⟨_,_,_,fn',hfn',_,_,_,_,hval0⟩:=hok
 have e:fn'=Tryz.f7:=Option.some.inj (hfn'.symm.trans Tryz.func7)
 subst e
 obtain⟨⟨⟨ds,gs,before,hw,hc⟩,hx⟩,hz⟩:=hpre
 have hW':=DataW.Whole.of_heap (w':=w.forCall tape i) (by rfl) hw
 have hx':laidMetH Tryz.prog Rows.postCommonRow.laid (w.forCall tape i):=hx.of_heap (by rfl)
 generalize w.forCall tape i=W at hsh hW' hx' hval0 ⊢
 generalize i.args=args at hW' hval0 ⊢
 have hg:=gfacts_of (L:=Rows.postCommonRow.laid) rfl hsh hx'
 have hW:=hW'
 obtain⟨p,q,hA0,hV0,rfl,hfz,hnd⟩:=hW
 have hA:DataW.TrodAll enc Tryz.prog W 0 (fun _=>true) true Tryz.f7.params.toList args.toList ds p:=hA0
 have hV:DataW.TrodVars enc Tryz.prog W (fun _=>true) [] gs q:=hV0
 rw [Tryz.params7] at hA
 obtain⟨rfl,rfl⟩:gs=[]∧q=[]:=by
  cases gs with
  | nil=>exact⟨rfl,hV⟩
  | cons g r=>exact absurd hV (by intro h;cases h)
 obtain⟨v0,vs0,d0,ds0,p0,q0,hargs,rfl,rfl,hh0,hr0⟩:=trodAll_cons hA
 obtain⟨v1,vs1,d1,ds1,p1,q1,rfl,rfl,rfl,hh1,hr1⟩:=trodAll_cons hr0
 obtain⟨v2,vs2,d2,ds2,p2,q2,rfl,rfl,rfl,hh2,hr2⟩:=trodAll_cons hr1
 obtain⟨v3,vs3,d3,ds3,p3,q3,rfl,rfl,rfl,hh3,hr3⟩:=trodAll_cons hr2
 obtain⟨rfl,rfl,rfl⟩:=trodAll_nil hr3
 have hargs:args=#[v0,v1,v2,v3]:=by cases args;simp_all
 obtain⟨s,hgr⟩:=open_graph hh0
 have hsz:args.size=4:=by rw [hargs];rfl
 have hval:∀ (j:Nat) t v,Tryz.f7.params[j]?=some t→args[j]?=some v→Value.okWide Tryz.prog W .any w.heap.size t v:=hval0
 obtain⟨n1,rfl,-,-,-⟩:=open_int Tryz.underlying3 (hval 1 3 v1 (by rw [Tryz.params7];rfl) (by rw [hargs];rfl)) hh1
 obtain⟨n2,rfl,-,-,-⟩:=open_int Tryz.underlying3 (hval 2 3 v2 (by rw [Tryz.params7];rfl) (by rw [hargs];rfl)) hh2
 obtain⟨n3,rfl,-,-,-⟩:=open_int Tryz.underlying3 (hval 3 3 v3 (by rw [Tryz.params7];rfl) (by rw [hargs];rfl)) hh3
 have hVL:VL W (mpA W) [graphW s,intV n1,intV n2,intV n3] args:=by
  refine⟨hsz.symm,fun j hj hj'=>?_⟩
  rcases j with _|_|_|_|j
  ·have:args[0]'hj'=v0:=by simp [hargs]
   rw [this];exact hgr
  ·have:args[1]'hj'=.int .i64 n1:=by simp [hargs]
   rw [this];exact .p _ _ (.int ..)
  ·have:args[2]'hj'=.int .i64 n2:=by simp [hargs]
   rw [this];exact .p _ _ (.int ..)
  ·have:args[3]'hj'=.int .i64 n3:=by simp [hargs]
   rw [this];exact .p _ _ (.int ..)
  ·simp at hj;omega
 refine (calls_true hg hVL (common_calls s n1 n2 n3 [] _ rfl)).mono fun e W' ⟨he,h1,h2,h3,h4,h5⟩=>?_
 subst he
 have hk:W.keptBut W' (fun _=>False):=⟨h1,h3,fun i hi=>by
  rw [h5 i hi]
  cases W.heap[i]? with
  | none=>trivial
  | some o=>cases o<;>simp⟩
 have hkept:=trodAll_kept (enc:=enc) (w:=W) (w':=W') (by rw [Tryz.params7];intro t ht;simp at ht;rcases ht with rfl|rfl<;>exact of_decide_eq_true (by kernel_rfl)) h5 hA0
 refine ChangeSpec.post_blind (v:=.bool true) ?_
 refine⟨_,_,_,[],p0++(p1++(p2++(p3++([])))),[],hW',?_,?_,?_,?_,fun h=>by cases h⟩
 ·exact trodAll_mk1 (shut_bool Tryz.underlying4 true)
 ·exact hkept
 ·rfl
 ·exact World.keptBut_mono (fun p hp=>hp.elim) hk
end Go.Proofs.YtcmepkfefoidcaaGreatDoor
namespace Go.Proofs.YtcmepkfefoidcaaGreatDoor
open Go
theorem postCommon_row:Rows.PostCommonSaid :=
 OpenClaim.holds_of_wide 7 Tryz.f7 rfl rfl rfl rfl rfl rfl rfl ⟨rfl,rfl,rfl,rfl,rfl⟩ rfl rfl rfl rfl rfl (by kernel_rfl) Tryz.func7 (by kernel_rfl)
  (of_decide_eq_true (by kernel_rfl)) (by unfold Func.isWrapper;rw [if_neg (of_decide_eq_false (by kernel_rfl))];exact⟨rfl,rfl⟩)
  (fun os started H enc _=>postCommon_lifted os started H enc)
theorem postCommon_card:Rows.PostCommonCardSaid :=
 Claim7.holds_tied_plain_at .later [] [.data, .data, .data, .sentinel, .sentinel] true (true, "28da1a0e0f6494e357789c76b1329e26682d91c93a1323e3f4532df97100e5a2") true
  postCommon_row (fun _ h=>by cases h) (by kernel_rfl) (fun _ h=>by cases h) postCommon_row_tie rfl ⟨rfl,rfl⟩ (by kernel_rfl) rfl
  (fun f fn hf hfn=>by
   obtain rfl : f = 7 := Option.some.inj ((show Tryz.prog.funcNamed "runnel/runnellaw11.PostCommon" = some 7 by kernel_rfl).symm.trans hf) |>.symm
   obtain rfl:fn=Tryz.f7:=(Option.some.inj (Tryz.func7.symm.trans hfn)).symm
   exact⟨by kernel_rfl,fun j t ht=>by
    rw [Tryz.params7] at ht
    have h3:t=25∨t=3:=by
     rcases j with _|_|_|_|j
     ·exact .inl (by simpa using ht.symm)
     ·exact .inr (by simpa using ht.symm)
     ·exact .inr (by simpa using ht.symm)
     ·exact .inr (by simpa using ht.symm)
     ·simp at ht
    rcases h3 with rfl|rfl
    ·exact (show Tryz.prog.wantsStandIn 25=false by kernel_rfl)
    ·exact (show Tryz.prog.wantsStandIn 3=false by kernel_rfl)⟩)
  (by kernel_rfl)
#print axioms postCommon_card
end Go.Proofs.YtcmepkfefoidcaaGreatDoor
