/-
  On the way to flowTells_card: part 1 of 11.
-/
import Derived.Lib.IndexMore
import Derived.Lib.AtoiAll
import Derived.Lib.ItoaNum
import Derived.Test.YtojjkleplnijaaaGreatDoorProg
import Derived.Lib.LaidTab
set_option linter.unusedVariables false
set_option linter.unusedSimpArgs false
namespace Go.Ru
abbrev Bs:=List UInt8
inductive TK where
 | name
 | number
 | sign
 | word
deriving DecidableEq
def TK.code:TK→Int
 | .name=>1
 | .number=>2
 | .sign=>3
 | .word=>4
structure Tok where
 k:TK
 n:Int
 at_:Int
 tx:Bs
structure Nd where
 k:Int
 n:Int
 at_:Int
 tx:Bs
 kids:List Int
instance:Inhabited Nd:=⟨⟨0,0,0,[],[]⟩⟩
structure PS where
 ts:List Tok
 ns:List Nd
 mo:Int
inductive R (α:Type) where
 | ok (a:α) (s:PS)
 | bad (at_ err:Int)
def R.bind {α β:Type} (r:R α) (f:α→PS→R β):R β :=
 match r with
 | .ok a s=>f a s
 | .bad a e=>.bad a e
abbrev M (α:Type):=PS→R α
def hd (e:Int):List Tok→Int
 | []=>e
 | t::_=>t.at_
def isS (w:Bs):List Tok→Bool
 | []=>false
 | t::_=>match t.k with
  | .word=>t.tx==w
  | .sign=>t.tx==w
  | _=>false
def dropS (s:PS):PS:=⟨s.ts.tail,s.ns,s.mo⟩
def wantS (e:Int) (w:Bs) (s:PS):R Unit :=
 match isS w s.ts with
 | true=>.ok () (dropS s)
 | false=>.bad (hd e s.ts) 2
def identS (e:Int) (s:PS):R Tok :=
 match s.ts with
 | []=>.bad e 2
 | t::r=>match t.k with
  | .name=>.ok t ⟨r,s.ns,s.mo⟩
  | _=>.bad t.at_ 2
def putS (n:Nd) (s:PS):R Int:=.ok (s.ns.length:Int) ⟨s.ts,s.ns++[n],s.mo⟩
def moreS (d:Nat) (mo:Int):Int:=if (41:Int) - d>mo then 41 - d else mo
def withinS {α:Type} (e:Int) (d:Nat) (op cl:Bs) (what:M α) (s:PS):R α :=
 match isS op s.ts with
 | false=>.bad (hd e s.ts) 2
 | true=>match d with
  | 0=>.bad (hd e s.ts) 6
  | _+1=>(what ⟨s.ts.tail,s.ns,moreS d s.mo⟩).bind fun a s=>match cl with
   | []=>.ok a s
   | _=>(wantS e cl s).bind fun _ s=>.ok a s
def rowS:Nat→List Bs
 | 0=>[[42],[47],[37]]
 | 1=>[[43],[45]]
 | 2=>[[61,61],[33,61],[60],[60,61],[62],[62,61]]
 | 3=>[[38,38]]
 | _=>[[124,124]]
def anyS (l:List Bs) (ts:List Tok):Bool:=l.any fun w=>isS w ts
def rowLoop (l:List Bs) (opnd:M Int):Nat→Int→M Int
 | 0,x,s=>.ok x s
 | n+1,x,s=>match s.ts with
  | []=>.ok x s
  | t::r=>match anyS l (t::r) with
   | false=>.ok x s
   | true=>(opnd ⟨r,s.ns,s.mo⟩).bind fun y s=>(putS ⟨27,0,t.at_,t.tx,[x,y]⟩ s).bind fun x s=>rowLoop l opnd n x s
def exprS (una:M Int):Nat→M Int
 | 0,s=>una s
 | j+1,s=>(exprS una j s).bind fun x s=>rowLoop (rowS j) (exprS una j) s.ts.length x s
def primS (e:Int) (d:Nat) (inner:M Int) (s:PS):R Int :=
 match s.ts with
 | []=>.bad e 2
 | t::r=>match t.k with
  | .number=>putS ⟨20,t.n,t.at_,[],[]⟩ ⟨r,s.ns,s.mo⟩
  | .name=>match isS [91] r with
   | true=>(withinS e d [91] [93] inner ⟨r,s.ns,s.mo⟩).bind fun x s=>putS ⟨23,0,t.at_,t.tx,[x]⟩ s
   | false=>putS ⟨22,0,t.at_,t.tx,[]⟩ ⟨r,s.ns,s.mo⟩
  | _=>match t.tx==[116,114,117,101] with
   | true=>putS ⟨21,1,t.at_,[],[]⟩ ⟨r,s.ns,s.mo⟩
   | false=>match t.tx==[102,97,108,115,101] with
    | true=>putS ⟨21,0,t.at_,[],[]⟩ ⟨r,s.ns,s.mo⟩
    | false=>match t.tx==[108,101,110] with
     | true=>(identS e ⟨r,s.ns,s.mo⟩).bind fun t' s=>putS ⟨24,0,t.at_,t'.tx,[]⟩ s
     | false=>match t.tx==[38] with
      | true=>(identS e ⟨r,s.ns,s.mo⟩).bind fun t' s=>putS ⟨25,0,t.at_,t'.tx,[]⟩ s
      | false=>match t.tx==[40] with
       | true=>withinS e d [40] [41] inner s
       | false=>.bad t.at_ 2
def unaB (e:Int) (d:Nat) (una inner:M Int) (s:PS):R Int :=
 match s.ts with
 | []=>.bad e 2
 | t::r=>match isS [45] (t::r) || isS [33] (t::r) with
  | true=>(withinS e d t.tx [] una s).bind fun x s=>putS ⟨26,0,t.at_,t.tx,[x]⟩ s
  | false=>primS e d inner s
def unaS (e:Int):Nat→M Int
 | 0=>unaB e 0 (fun _=>.bad 0 0) (fun _=>.bad 0 0)
 | d+1=>unaB e (d+1) (unaS e d) (exprS (unaS e d) 5)
def exS (e:Int) (d:Nat):M Int:=exprS (unaS e d) 5
def inS (e:Int):Nat→M Int
 | 0=>fun _=>.bad 0 0
 | d+1=>exS e d
def indexS (e:Int) (d:Nat):M Int:=withinS e d [91] [93] (inS e d)
def commaL {α:Type} (one:List α→M (List α)):Nat→List α→M (List α)
 | 0,l,s=>.ok l s
 | n+1,l,s=>match isS [44] s.ts with
  | true=>(one l (dropS s)).bind fun l s=>commaL one n l s
  | false=>.ok l s
def listS {α:Type} (one:List α→M (List α)) (l:List α) (s:PS):R (List α) :=
 match isS [41] s.ts with
 | true=>.ok l s
 | false=>(one l s).bind fun l s=>commaL one s.ts.length l s
def oneS (m:M Int) (l:List Int):M (List Int):=fun s=>(m s).bind fun x s=>.ok (l++[x]) s
def callS (e:Int) (d:Nat) (at_:Int) (tx:Bs) (s:PS):R Int :=
 (identS e s).bind fun t s=>(putS ⟨19,0,t.at_,t.tx,[]⟩ s).bind fun x s =>
  (withinS e d [40] [41] (listS (oneS (inS e d)) [x]) s).bind fun l s=>putS ⟨13,0,at_,tx,l⟩ s
def chanS (e:Int) (s:PS):R Int:=(identS e s).bind fun t s=>putS ⟨18,0,t.at_,t.tx,[]⟩ s
def namedS (e:Int) (d:Nat) (s:PS):R Int :=
 (identS e s).bind fun t s=>match isS [91] s.ts with
  | true=>(indexS e d s).bind fun x s=>(wantS e [61] s).bind fun _ s=>(exS e d s).bind fun y s=>putS ⟨8,0,t.at_,t.tx,[x,y]⟩ s
  | false=>(wantS e [61] s).bind fun _ s=>match isS [105,110] s.ts with
   | true=>(chanS e (dropS s)).bind fun x s=>putS ⟨9,0,t.at_,t.tx,[x]⟩ s
   | false=>match isS [99,97,108,108] s.ts with
    | true=>callS e d t.at_ t.tx (dropS s)
    | false=>match isS [110,101,119] s.ts with
     | true=>(exS e d (dropS s)).bind fun x s=>putS ⟨17,0,t.at_,t.tx,[x]⟩ s
     | false=>(exS e d s).bind fun x s=>putS ⟨7,0,t.at_,t.tx,[x]⟩ s
def plainS (e:Int) (d:Nat) (s:PS):R Int :=
 let at_:=hd e s.ts
 match isS [111,117,116] s.ts with
 | true=>(chanS e (dropS s)).bind fun c s=>(exS e d s).bind fun x s=>putS ⟨10,0,at_,[],[c,x]⟩ s
 | false=>match isS [99,97,108,108] s.ts with
  | true=>callS e d at_ [] (dropS s)
  | false=>match isS [116,104,114,111,119] s.ts with
   | true=>(exS e d (dropS s)).bind fun x s=>putS ⟨15,0,at_,[],[x]⟩ s
   | false=>match isS [114,101,116,117,114,110] s.ts with
    | true=>match isS [59] s.ts.tail with
     | true=>putS ⟨14,0,at_,[],[]⟩ (dropS s)
     | false=>(exS e d (dropS s)).bind fun x s=>putS ⟨14,0,at_,[],[x]⟩ s
    | false=>namedS e d s
def stmtsL (stmt:M Int):Nat→List Int→M (List Int)
 | 0,_,_=>.bad 0 0
 | n+1,l,s=>match isS [125] s.ts with
  | true=>.ok l s
  | false=>(stmt s).bind fun x s=>stmtsL stmt n (l++[x]) s
def stmtsS (stmt:M Int) (l:List Int) (s:PS):R (List Int):=stmtsL stmt (s.ts.length+1) l s
def blockB (e:Int) (d:Nat) (stmt:M Int) (s:PS):R Int :=
 let at_:=hd e s.ts
 (withinS e d [123] [125] (stmtsS stmt []) s).bind fun l s=>putS ⟨6,0,at_,[],l⟩ s
def stmtB (e:Int) (d:Nat) (stmt:M Int) (s:PS):R Int :=
 let at_:=hd e s.ts
 match isS [105,102] s.ts with
 | true=>(exS e d (dropS s)).bind fun x s=>(blockB e d stmt s).bind fun a s=>match isS [101,108,115,101] s.ts with
  | true=>(blockB e d stmt (dropS s)).bind fun b s=>putS ⟨11,0,at_,[],[x,a,b]⟩ s
  | false=>(putS ⟨6,0,at_,[],[]⟩ s).bind fun b s=>putS ⟨11,0,at_,[],[x,a,b]⟩ s
 | false=>match isS [119,104,105,108,101] s.ts with
  | true=>(exS e d (dropS s)).bind fun x s=>(blockB e d stmt s).bind fun a s=>putS ⟨12,0,at_,[],[x,a]⟩ s
  | false=>match isS [116,114,121] s.ts with
   | true=>(blockB e d stmt (dropS s)).bind fun a s=>(wantS e [99,97,116,99,104] s).bind fun _ s=>(identS e s).bind fun t s =>
     (blockB e d stmt s).bind fun b s=>putS ⟨16,0,at_,t.tx,[a,b]⟩ s
   | false=>(plainS e d s).bind fun x s=>(wantS e [59] s).bind fun _ s=>.ok x s
def stmtS (e:Int):Nat→M Int
 | 0=>stmtB e 0 (fun _=>.bad 0 0)
 | d+1=>stmtB e (d+1) (stmtS e d)
def inStmtS (e:Int):Nat→M Int
 | 0=>fun _=>.bad 0 0
 | d+1=>stmtS e d
def typesS (ts:List Tok):Int :=
 match isS [105,110,116] ts with
 | true=>1
 | false=>match isS [98,111,111,108] ts with
  | true=>2
  | false=>match isS [97,114,114] ts with
   | true=>3
   | false=>match isS [102,117,110] ts with
    | true=>4
    | false=>0
def typedS (e:Int) (k at_:Int) (tx:Bs) (s:PS):R Int :=
 match typesS s.ts==0 with
 | true=>.bad (hd e s.ts) 2
 | false=>putS ⟨k,typesS s.ts,at_,tx,[]⟩ (dropS s)
def varsL (e:Int) (kind:Int):Nat→List Int→M (List Int)
 | 0,l,s=>.ok l s
 | n+1,l,s=>match isS [118,97,114] s.ts with
  | false=>.ok l s
  | true=>(identS e (dropS s)).bind fun t s'=>(typedS e kind (hd e s.ts) t.tx s').bind fun x s=>(wantS e [59] s).bind fun _ s=>varsL e kind n (l++[x]) s
def varsS (e:Int) (kind:Int) (s:PS):R (List Int):=varsL e kind s.ts.length [] s
def bodyS (e:Int) (d:Nat) (s:PS):R (List Int×Int) :=
 let at_:=hd e s.ts
 (withinS e d [123] [125] (fun s=>(varsS e 5 s).bind fun vs s=>(stmtsS (inStmtS e d) [] s).bind fun l s=>.ok (vs,l) s) s).bind fun p s =>
  (putS ⟨6,0,at_,[],p.2⟩ s).bind fun b s=>.ok (p.1,b) s
def paramS (e:Int):M Int:=fun s=>(identS e s).bind fun t s=>typedS e 4 t.at_ t.tx s
def procS (e:Int) (d:Nat) (s:PS):R Int :=
 let at_:=hd e s.ts
 (wantS e [112,114,111,99] s).bind fun _ s=>(identS e s).bind fun t s =>
  (withinS e d [40] [41] (listS (oneS (paramS e)) []) s).bind fun ps s =>
   let k:=typesS s.ts
   (bodyS e d (match decide (k>0) with
    | true=>dropS s
    | false=>s)).bind fun p s=>putS ⟨3,k,at_,t.tx,ps++p.1++[p.2]⟩ s
def procsL (e:Int) (d:Nat):Nat→List Int→M (List Int)
 | 0,l,s=>.ok l s
 | n+1,l,s=>match s.ts with
  | []=>.ok l s
  | _::_=>(procS e d s).bind fun x s=>procsL e d n (l++[x]) s
def programS (e:Int) (s:PS):R Int :=
 (varsS e 2 s).bind fun l s=>(procsL e 40 s.ts.length l s).bind fun l s=>putS ⟨1,0,0,[],l⟩ s
end Go.Ru
namespace Go.Ru
def kidsS (out:List Nat):List Int→Int→Nat→Option Nat
 | [],_,size=>some size
 | k::r,last,size=>match k==last&&decide (0≤k) with
  | true=>kidsS out r (k - (out.getD k.toNat 0:Nat)) (size+out.getD k.toNat 0)
  | false=>none
def sizesS:List Nd→List Nat→Option (List Nat)
 | [],out=>some out
 | n::r,out=>match kidsS out n.kids.reverse ((out.length:Int) - 1) 1 with
  | some c=>sizesS r (out++[c])
  | none=>none
def soundS (ns:List Nd) (root:Int):Bool :=
 !(ns.length==0 || decide (4000<ns.length) || root != (ns.length:Int) - 1) &&
 match sizesS ns [] with
 | some l=>l.getD root.toNat 0==ns.length
 | none=>false
def szOk (out:List Nat):Prop:=∀ i,i<out.length→1≤out.getD i 0∧out.getD i 0≤i+1
theorem kidsS_inv {out:List Nat} (ho:szOk out):∀ (l:List Int) (last:Int) (size:Nat) (c:Nat),last<out.length→-1≤last→(size:Int)=out.length - last→kidsS out l last size=some c→1≤c∧c≤out.length+1:=by
 intro l
 induction l with
 | nil=>intro last size c h1 h2 h3 h;simp only [kidsS,Option.some.injEq] at h;omega
 | cons k r ih =>
  intro last size c h1 h2 h3 h
  simp only [kidsS] at h
  split at h
  case h_2=>simp at h
  rename_i hb
  simp only [Bool.and_eq_true,beq_iff_eq,decide_eq_true_eq] at hb
  obtain⟨rfl,hk⟩:=hb
  have:=ho k.toNat (by omega)
  exact ih _ _ c (by omega) (by omega) (by omega) h
theorem szOk_snoc {out:List Nat} (ho:szOk out) {c:Nat} (h:1≤c∧c≤out.length+1):szOk (out++[c]):=by
 intro i hi
 by_cases e:i<out.length
 ·have h1:=ho i e
  rw [List.getD_eq_getElem?_getD,List.getElem?_append_left e,← List.getD_eq_getElem?_getD]
  exact h1
 ·have:i=out.length:=by simp at hi;omega
  subst this
  simpa using h
theorem kidsS_mem {out:List Nat} (ho:szOk out):∀ (l:List Int) (last:Int) (size:Nat) (c:Nat),last<out.length→kidsS out l last size=some c→∀ k∈l,0≤k∧k≤last:=by
 intro l
 induction l with
 | nil=>intro last size c _ _ k hk;simp at hk
 | cons k r ih =>
  intro last size c h1 h k' hk'
  simp only [kidsS] at h
  split at h
  case h_2=>simp at h
  rename_i hb
  simp only [Bool.and_eq_true,beq_iff_eq,decide_eq_true_eq] at hb
  obtain⟨rfl,hk⟩:=hb
  have:=ho k.toNat (by omega)
  rcases List.mem_cons.1 hk' with rfl|hk'
  ·exact⟨hk,Int.le_refl _⟩
  ·have:=ih _ _ c (by omega) h k' hk'
   omega
theorem sizesS_inv:∀ (r:List Nd) (out l:List Nat),szOk out→sizesS r out=some l→l.length=out.length+r.length∧szOk l∧∀ j,j<r.length→∀ k∈(r.getD j default).kids,0≤k∧k<(out.length+j:Nat):=by
 intro r
 induction r with
 | nil=>intro out l ho h;simp only [sizesS,Option.some.injEq] at h;subst h;exact⟨rfl,ho,fun j hj=>by simp at hj⟩
 | cons n r ih =>
  intro out l ho h
  simp only [sizesS] at h
  split at h
  case h_2=>simp at h
  rename_i c hc
  have hinv:=kidsS_inv ho _ _ _ c (by omega) (by omega) (by omega) hc
  have hm:=kidsS_mem ho _ _ _ c (by omega) hc
  obtain⟨h1,h2,h3⟩:=ih _ _ (szOk_snoc ho hinv) h
  refine⟨by rw [h1];simp;omega,h2,fun j hj k hk=>?_⟩
  cases j with
  | zero =>
   have:=hm k (by simpa using hk)
   omega
  | succ j =>
   have:=h3 j (by simpa using hj) k (by simpa using hk)
   simp at this
   omega
def deepS (ns:List Nd):Nat→Int→Nat
 | 0,_=>0
 | n+1,p=>(ns.getD p.toNat default).kids.foldl (fun d k=>max d (deepS ns n k)) 0+1
theorem deepS_le (ns:List Nd) (n:Nat) (p:Int):deepS ns n p≤n:=by
 induction n generalizing p with
 | zero=>exact Nat.le_refl _
 | succ n ih =>
  have:∀ (l:List Int) (d:Nat),d≤n→l.foldl (fun d k=>max d (deepS ns n k)) d≤n:=by
   intro l
   induction l with
   | nil=>intro d h;exact h
   | cons k l ihl=>intro d h;exact ihl _ (by have:=ih k;exact Nat.max_le.2 ⟨h,this⟩)
  have:=this (ns.getD p.toNat default).kids 0 (Nat.zero_le _)
  simp only [deepS];omega
def depthS (ns:List Nd) (root:Int):Nat:=match soundS ns root with
 | true=>deepS ns ns.length root
 | false=>0
theorem soundS_ok {ns:List Nd} {root:Int} (h:soundS ns root=true):0<ns.length∧ns.length≤4000∧root=(ns.length:Int) - 1∧∀ j,j<ns.length→∀ k∈(ns.getD j default).kids,0≤k∧k<(j:Int):=by
 simp only [soundS,Bool.and_eq_true,Bool.not_eq_true',Bool.or_eq_false_iff,beq_eq_false_iff_ne,decide_eq_false_iff_not,bne_eq_false_iff_eq] at h
 obtain⟨⟨⟨h1,h2⟩,h3⟩,h4⟩:=h
 split at h4
 case h_2=>simp at h4
 rename_i l hl
 obtain⟨_,_,h5⟩:=sizesS_inv ns [] l (fun i hi=>by simp at hi) hl
 exact⟨by omega,by omega,h3,fun j hj k hk=>by have:=h5 j hj k hk;simp at this;exact this⟩
end Go.Ru
namespace Go.Ru
open Go
def digitsT:Bs:=[48,49,50,51,52,53,54,55,56,57]
def partsT:Bs:=[97,98,99,100,101,102,103,104,105,106,107,108,109,110,111,112,113,114,115,116,117,118,119,120,121,122,65,66,67,68,69,70,71,72,73,74,75,76,77,78,79,80,81,82,83,84,85,86,87,88,89,90,95,48,49,50,51,52,53,54,55,56,57]
def blanksT:Bs:=[32,9,10]
def keptT:Bs:=[32,118,97,114,32,112,114,111,99,32,105,110,116,32,98,111,111,108,32,97,114,114,32,102,117,110,32,105,110,32,111,117,116,32,105,102,32,101,108,115,101,32,119,104,105,108,101,32,99,97,108,108,32,114,101,116,117,114,110,32,116,104,114,111,119,32,116,114,121,32,99,97,116,99,104,32,110,101,119,32,108,101,110,32,116,114,117,101,32,102,97,108,115,101,32]
def pairsT:Bs:=[32,61,61,32,33,61,32,60,61,32,62,61,32,38,38,32,124,124,32]
def singleT:Bs:=[40,41,123,125,91,93,44,59,61,60,62,43,45,42,47,37,33,38]
def inB (l:Bs) (c:UInt8):Bool:=decide (Lib.indexByte l c≥0)
def runS (l:Bs) (r:Bs):Nat:=(r.takeWhile (inB l)).length
def keptP (l:Bs):Bool:=!(l==[])&&(decide (Lib.indexByte l 32<0)&&Lib.contains keptT ([32]++l++[32]))
def identP (l:Bs):Bool:=!(l==[])&&(decide (l.length≤20)&&(l.all (inB partsT)&&(decide (Lib.indexByte digitsT (l.getD 0 0)<0)&&!keptP l)))
def numP (l:Bs):Option Int:=match Lib.atoiAll l with
 | .ok v=>if Lib.itoa v=l then some v else none
 | _=>none
def wordP (l:Bs):Option (TK×Int):=match keptP l with
 | true=>some (.word,0)
 | false=>match identP l with
  | true=>some (.name,0)
  | false=>match numP l with
   | some v=>some (.number,v)
   | none=>none
def pairP (l:Bs):Bool:=decide (l.length>1)&&(!(l.getD 0 0==32)&&(!(l.getD 1 0==32)&&Lib.contains pairsT ([32]++l.take 2++[32])))
def signP (l:Bs):Nat:=if pairP l then 2 else if inB singleT (l.getD 0 0) then 1 else 0
inductive CR where
 | ok (l:List Tok)
 | bad (at_:Nat)
def CR.cons (t:Tok):CR→CR
 | .ok l=>.ok (t::l)
 | .bad a=>.bad a
def cutS:Nat→Bs→Nat→CR
 | 0,_,_=>.ok []
 | n+1,r,i=>match r with
  | []=>.ok []
  | c::r'=>if 0<runS blanksT r then cutS n (r.drop (runS blanksT r)) (i+runS blanksT r)
   else if c=35 then cutS n (r.dropWhile (fun c=>!(c==10))) (i+(r.takeWhile (fun c=>!(c==10))).length)
   else if 0<runS partsT r then match wordP (r.take (runS partsT r)) with
    | none=>.bad i
    | some (k,v)=>(cutS n (r.drop (runS partsT r)) (i+runS partsT r)).cons ⟨k,v,i,r.take (runS partsT r)⟩
   else match signP r with
    | 0=>.bad i
    | m+1=>(cutS n (r.drop (m+1)) (i+(m+1))).cons ⟨.sign,0,i,r.take (m+1)⟩
def cutT (s:Bs):CR:=cutS s.length s 0
end Go.Ru
namespace Go.Ru
open Go
def signsT:Bs:=[32,43,32,45,32,42,32,47,32,37,32,61,61,32,33,61,32,60,32,60,61,32,62,32,62,61,32,38,38,32,124,124,32]
def signedP (l:Bs):Bool:=!(l==[])&&(decide (Lib.indexByte l 32<0)&&Lib.contains signsT ([32]++l++[32]))
def textS (k:Int) (l:Bs):Bool :=
 if k=1∨k=6∨k=10∨k=11∨k=12∨k=14∨k=15∨k=20∨k=21 then l==[]
 else if k=13 then l==[] || identP l
 else if k=26 then l==[45] || l==[33]
 else if k=27 then signedP l
 else identP l
def numberS (k n:Int):Bool :=
 if k=2∨k=4∨k=5 then decide (n≥1)&&decide (n≤4)
 else if k=3 then decide (n≥0)&&decide (n≤4)
 else if k=20 then decide (n≥0)
 else if k=21 then n==0 || n==1
 else n==0
def stB (k:Int):Bool:=decide (k≥7)&&decide (k≤17)
def exB (k:Int):Bool:=decide (k≥20)&&decide (k≤27)
def kindsS (ns:List Nd) (n:Nd):List Int:=n.kids.map fun q=>(ns.getD q.toNat default).k
def cntS (p:Int→Bool):Nat→List Int→Nat
 | 0,_=>0
 | _+1,[]=>0
 | m+1,a::l=>match p a with
  | true=>cntS p m l+1
  | false=>0
theorem cnt_t {p:Int→Bool} {m:Nat} {a:Int} {l:List Int} (h:p a=true):cntS p (m+1) (a::l)=cntS p m l+1:=by simp [cntS,h]
theorem cnt_f {p:Int→Bool} {m:Nat} {a:Int} {l:List Int} (h:p a=false):cntS p (m+1) (a::l)=0:=by simp [cntS,h]
def kidsOkS (k:Int) (l:List Int):Bool :=
 let is (c:Int):Int→Bool:=fun k=>k==c
 let a (p:Int→Bool) (m:Nat) (i:Nat):Nat:=cntS p m (l.drop i)
 let e (i:Nat):Bool:=((i:Int)==(l.length:Int))
 if k=1 then let i:=a (is 2) 4000 0;let i:=i+a (is 3) 4000 i;e i
 else if k=3 then let i:=a (is 4) 4000 0;let i:=i+a (is 5) 4000 i;let c:=a (is 6) 1 i;c==1&&e (i+c)
 else if k=6 then e (a stB 4000 0)
 else if k=7∨k=17∨k=15∨k=23∨k=26 then let c:=a exB 1 0;c==1&&e c
 else if k=8∨k=27 then let c:=a exB 2 0;c==2&&e c
 else if k=9 then let c:=a (is 18) 1 0;c==1&&e c
 else if k=10 then let c:=a (is 18) 1 0;c==1&&(let d:=a exB 1 c;d==1&&e (c+d))
 else if k=11 then let c:=a exB 1 0;c==1&&(let d:=a (is 6) 2 c;d==2&&e (c+d))
 else if k=12 then let c:=a exB 1 0;c==1&&(let d:=a (is 6) 1 c;d==1&&e (c+d))
 else if k=13 then let c:=a (is 19) 1 0;let d:=a exB 4000 c;c==1&&e (c+d)
 else if k=14 then e (a exB 1 0)
 else if k=16 then let c:=a (is 6) 2 0;c==2&&e c
 else e 0
def nodeOkS (ns:List Nd) (n:Nd):Bool:=decide (1≤n.k)&&decide (n.k≤27)&&textS n.k n.tx&&numberS n.k n.n&&kidsOkS n.k (kindsS ns n)
def rightS (ns:List Nd) (root:Int):Bool:=soundS ns root&&decide (depthS ns root≤40)&&((ns.getD root.toNat default).k==1)&&ns.all (nodeOkS ns)
theorem kidsS_many {out:List Nat} (ho:szOk out):∀ (l:List Int) (last:Int) (size c:Nat),last<out.length→kidsS out l last size=some c→size+l.length≤c:=by
 intro l
 induction l with
 | nil=>intro last size c _ h;simp only [kidsS,Option.some.injEq] at h;simp;omega
 | cons k r ih =>
  intro last size c h1 h
  simp only [kidsS] at h
  split at h
  case h_2=>simp at h
  rename_i hb
  simp only [Bool.and_eq_true,beq_iff_eq,decide_eq_true_eq] at hb
  obtain⟨rfl,hk⟩:=hb
  have:=ho k.toNat (by omega)
  have:=ih _ _ c (by omega) h
  simp only [List.length_cons];omega
theorem sizesS_many:∀ (r:List Nd) (out l:List Nat),szOk out→sizesS r out=some l→∀ j,j<r.length→(r.getD j default).kids.length≤out.length+j:=by
 intro r
 induction r with
 | nil=>intro out l ho h j hj;simp at hj
 | cons n r ih =>
  intro out l ho h j hj
  simp only [sizesS] at h
  split at h
  case h_2=>simp at h
  rename_i c hc
  have hinv:=kidsS_inv ho _ _ _ c (by omega) (by omega) (by omega) hc
  have hm:=kidsS_many ho _ _ _ c (by omega) hc
  cases j with
  | zero=>simp at hm ⊢;omega
  | succ j =>
   have:=ih _ _ (szOk_snoc ho hinv) h j (by simpa using hj)
   simp at this ⊢;omega
theorem soundS_many {ns:List Nd} {root:Int} (h:soundS ns root=true):∀ j,j<ns.length→(ns.getD j default).kids.length≤j:=by
 simp only [soundS,Bool.and_eq_true] at h
 obtain⟨_,h4⟩:=h
 split at h4
 case h_2=>simp at h4
 rename_i l hl
 intro j hj
 have:=sizesS_many ns [] l (fun i hi=>by simp at hi) hl j hj
 simpa using this
end Go.Ru
namespace Go.Ru
def nd (ns:List Nd) (i:Nat):Nd:=ns.getD i default
theorem nd_zero (n:Nd) (r:List Nd):nd (n::r) 0=n:=rfl
theorem nd_succ (n:Nd) (r:List Nd) (j:Nat):nd (n::r) (j+1)=nd r j:=rfl
def setF (f:Nat→Int) (k:Nat) (v:Int) (j:Nat):Int:=if j=k then v else f j
def parKids (i:Nat):List Int→(Nat→Int)→Nat→Int
 | [],f=>f
 | k::r,f=>parKids i r (setF f k.toNat (i:Int))
def parNs:Nat→List Nd→(Nat→Int)→Nat→Int
 | _,[],f=>f
 | i,n::r,f=>parNs (i+1) r (parKids i n.kids f)
def parF (ns:List Nd) (root:Int):Nat→Int:=parNs 0 ns (setF (fun _=>0) root.toNat (-1))
theorem parKids_no {i:Nat} {l:List Int} {f:Nat→Int} {x:Nat} (h:∀ k∈l,k.toNat≠x):parKids i l f x=f x:=by
 induction l generalizing f with
 | nil=>rfl
 | cons k r ih =>
  have h1:k.toNat≠x:=h k (by simp)
  simp only [parKids]
  rw [ih (fun k hk=>h k (by simp [hk]))]
  simp only [setF]
  rw [if_neg (fun e=>h1 e.symm)]
theorem parKids_yes {i:Nat} {l:List Int} {f:Nat→Int} {x:Nat} (h:∃ k∈l,k.toNat=x):parKids i l f x=(i:Int):=by
 induction l generalizing f with
 | nil=>obtain⟨k,hk,_⟩:=h;simp at hk
 | cons k r ih =>
  simp only [parKids]
  by_cases h2:∃ k∈r,k.toNat=x
  ·exact ih h2
  ·rw [parKids_no (fun k hk e=>h2 ⟨k,hk,e⟩)]
   obtain⟨k',hk',e⟩:=h
   rcases List.mem_cons.1 hk' with rfl|hk'
   ·simp [setF,e]
   ·exact absurd ⟨k',hk',e⟩ h2
theorem parNs_no {i:Nat} {l:List Nd} {f:Nat→Int} {x:Nat} (h:∀ n∈l,∀ k∈n.kids,k.toNat≠x):parNs i l f x=f x:=by
 induction l generalizing f i with
 | nil=>rfl
 | cons n r ih =>
  simp only [parNs]
  rw [ih (fun n hn=>h n (by simp [hn])),parKids_no (h n (by simp))]
theorem parNs_yes {i:Nat} {l:List Nd} {f:Nat→Int} {x j:Nat} (hj:j<l.length) (h:∃ k∈(nd l j).kids,k.toNat=x)
  (hn:∀ j',j<j'→j'<l.length→∀ k∈(nd l j').kids,k.toNat≠x):parNs i l f x=((i+j:Nat):Int):=by
 induction l generalizing f i j with
 | nil=>simp at hj
 | cons n r ih =>
  simp only [parNs]
  cases j with
  | zero =>
   rw [parNs_no,parKids_yes (by simpa [nd_zero] using h)]
   ·rfl
   ·intro n' hn' k hk
    obtain⟨q,hq,rfl⟩:=List.mem_iff_getElem.1 hn'
    refine hn (q+1) (by omega) (by simpa using hq) k ?_
    simpa [nd,hq] using hk
  | succ j =>
   rw [ih (j:=j) (by simpa using hj) (by simpa [nd_succ] using h) (fun j' h1 h2=>by
    have:=hn (j'+1) (by omega) (by simpa using h2)
    simpa [nd_succ] using this)]
   congr 1;omega
def szOf (ns:List Nd):List Nat:=match sizesS ns [] with
 | some l=>l
 | none=>[]
theorem sizesS_each:∀ (r:List Nd) (out l:List Nat),sizesS r out=some l→l.take out.length=out∧∀ j,j<r.length→kidsS (l.take (out.length+j)) (nd r j).kids.reverse (((out.length+j:Nat):Int) - 1) 1=some (l.getD (out.length+j) 0):=by
 intro r
 induction r with
 | nil=>intro out l h;simp only [sizesS,Option.some.injEq] at h;subst h;exact⟨by simp,fun j hj=>by simp at hj⟩
 | cons n r ih =>
  intro out l h
  simp only [sizesS] at h
  split at h
  case h_2=>simp at h
  rename_i c hc
  obtain⟨h1,h2⟩:=ih _ _ h
  simp only [List.length_append,List.length_cons,List.length_nil,Nat.zero_add] at h1 h2
  have h3:l.take out.length=out:=by
   have:(l.take (out.length+1)).take out.length=(out++[c]).take out.length:=by rw [h1]
   rw [List.take_take,Nat.min_eq_left (by omega)] at this
   simpa using this
  refine⟨h3,fun j hj=>?_⟩
  cases j with
  | zero =>
   have h4:l.getD out.length 0=c:=by
    have h5:(l.take (out.length+1))[out.length]?=some c:=by rw [h1];simp
    rw [List.getElem?_take] at h5
    simp only [Nat.lt_succ_self,if_true] at h5
    rw [List.getD_eq_getElem?_getD,h5];rfl
   simp only [Nat.add_zero,nd_zero,h3,h4]
   exact hc
  | succ j =>
   have:=h2 j (by simpa using hj)
   simp only [nd_succ] at this ⊢
   rw [show out.length+(j+1)=out.length+1+j by omega]
   exact this
theorem kidsS_tile {out:List Nat}:∀ (ks:List Int) (last:Int) (size c:Nat),kidsS out ks last size=some c →
  size≤c∧(∀ x:Int,last - (c - size:Nat)<x→x≤last→∃ k∈ks,0≤k∧k - (out.getD k.toNat 0:Nat)<x∧x≤k) ∧
  (∀ k∈ks,0≤k∧k≤last∧last - (c - size:Nat)≤k - (out.getD k.toNat 0:Nat)) ∧
  (∀ k∈ks,∀ k'∈ks,k<k'→k≤k' - (out.getD k'.toNat 0:Nat)):=by
 intro ks
 induction ks with
 | nil =>
  intro last size c h
  simp only [kidsS,Option.some.injEq] at h
  subst h
  refine⟨Nat.le_refl _,fun x h1 h2=>by simp at h1;omega,fun k hk=>by simp at hk,fun k hk=>by simp at hk⟩
 | cons q r ih =>
  intro last size c h
  simp only [kidsS] at h
  split at h
  case h_2=>simp at h
  rename_i hb
  simp only [Bool.and_eq_true,beq_iff_eq,decide_eq_true_eq] at hb
  obtain⟨rfl,hq⟩:=hb
  obtain⟨h1,h2,h3,h4⟩:=ih _ _ c h
  generalize hs:out.getD q.toNat 0=s at *
  refine⟨by omega,fun x hx1 hx2=>?_,fun k hk=>?_,fun k hk k' hk' hlt=>?_⟩
  ·by_cases hx:q - (s:Int)<x
   ·exact⟨q,by simp,hq,by rw [hs];exact hx,hx2⟩
   ·obtain⟨k,hk,h5⟩:=h2 x (by omega) (by omega)
    exact⟨k,by simp [hk],h5⟩
  ·rcases List.mem_cons.1 hk with rfl|hk
   ·rw [hs];omega
   ·have:=h3 k hk
    omega
  ·rcases List.mem_cons.1 hk' with rfl|m'
   ·rcases List.mem_cons.1 hk with rfl|m
    ·omega
    ·have:=h3 k m
     rw [hs];omega
   ·rcases List.mem_cons.1 hk with rfl|m
    ·have:=h3 k' m'
     omega
    ·exact h4 k m k' m' hlt
def lowS (ns:List Nd) (j:Nat):Int:=(j:Int) - ((szOf ns).getD j 0:Nat)
structure Std (ns:List Nd) (root:Int):Prop where
 pos:0<ns.length
 len:ns.length≤4000
 rt:root=(ns.length:Int) - 1
 low:lowS ns (ns.length - 1)=-1
 self:∀ j,j<ns.length→-1≤lowS ns j∧lowS ns j<j
 kid:∀ j,j<ns.length→∀ k∈(nd ns j).kids,0≤k∧k<(j:Int)∧lowS ns j≤lowS ns k.toNat
 tile:∀ j,j<ns.length→∀ x:Int,lowS ns j<x→x<j→∃ k∈(nd ns j).kids,0≤k∧lowS ns k.toNat<x∧x≤k
 apart:∀ j,j<ns.length→∀ k∈(nd ns j).kids,∀ k'∈(nd ns j).kids,k<k'→k≤lowS ns k'.toNat
 many:∀ j,j<ns.length→(nd ns j).kids.length≤j
 none:∀ j,j<ns.length→(nd ns j).kids=[]→lowS ns j=(j:Int) - 1
theorem std_of {ns:List Nd} {root:Int} (h:soundS ns root=true):Std ns root:=by
 obtain⟨g1,g2,g3,g4⟩:=soundS_ok h
 have hm:=soundS_many h
 simp only [soundS,Bool.and_eq_true] at h
 obtain⟨_,h4⟩:=h
 split at h4
 case h_2=>simp at h4
 rename_i l hl
 obtain⟨hlen,hok,_⟩:=sizesS_inv ns [] l (fun i hi=>by simp at hi) hl
 obtain⟨_,he⟩:=sizesS_each ns [] l hl
 simp only [List.length_nil,Nat.zero_add] at hlen he
 have hsz:szOf ns=l:=by simp [szOf,hl]
 have hge:∀ (j:Nat) (k:Int),0≤k→k<(j:Int)→(l.take j).getD k.toNat 0=l.getD k.toNat 0:=fun j k h1 h2=>by
  rw [List.getD_eq_getElem?_getD,List.getElem?_take,if_pos (by omega),List.getD_eq_getElem?_getD]
 have hlow:∀ j:Nat,lowS ns j=(j:Int) - (l.getD j 0:Nat):=fun j=>by simp [lowS,hsz]
 have hkd:∀ j,j<ns.length→∀ k∈(nd ns j).kids,0≤k∧k<(j:Int):=fun j hj k hk=>g4 j hj k hk
 have ht:∀ j,j<ns.length→_:=fun j hj=>kidsS_tile _ _ _ _ (he j hj)
 refine⟨g1,g2,g3,?_,fun j hj=>?_,fun j hj k hk=>?_,fun j hj x h1 h2=>?_,fun j hj k hk k' hk' hlt=>?_,hm,fun j hj h0=>?_⟩
 ·rw [hlow]
  have h5:=beq_iff_eq.1 h4
  rw [g3,show ((ns.length:Int) - 1).toNat=ns.length - 1 by omega] at h5
  rw [h5];omega
 ·have:=hok j (by omega)
  rw [hlow];omega
 ·obtain⟨h1,h2⟩:=hkd j hj k hk
  obtain⟨t1,_,t3,_⟩:=ht j hj
  have:=t3 k (by simpa using hk)
  rw [hge j k h1 h2] at this
  rw [hlow,hlow]
  refine⟨h1,h2,?_⟩
  have h6:((k.toNat:Nat):Int)=k:=by omega
  have:=hok j (by omega)
  rw [h6];omega
 ·obtain⟨t1,t2,_,_⟩:=ht j hj
  have h7:=hok j (by omega)
  obtain⟨k,hk,h3,h5,h6⟩:=t2 x (by rw [hlow] at h1;omega) (by omega)
  have hk:k∈(nd ns j).kids:=by simpa using hk
  obtain⟨h8,h9⟩:=hkd j hj k hk
  rw [hge j k h8 h9] at h5
  refine⟨k,hk,h3,?_,h6⟩
  rw [hlow];omega
 ·obtain⟨_,_,_,t4⟩:=ht j hj
  obtain⟨h8,h9⟩:=hkd j hj k' hk'
  have:=t4 k (by simpa using hk) k' (by simpa using hk') hlt
  rw [hge j k' h8 h9] at this
  rw [hlow];omega
 ·have:=he j hj
  rw [h0] at this
  simp only [List.reverse_nil,kidsS,Option.some.injEq] at this
  rw [hlow,← this];omega
theorem Std.up {ns:List Nd} {root:Int} (h:Std ns root):∀ j,j<ns.length→∀ x:Nat,lowS ns j<x→x<j→∃ p,x<p∧p≤j∧(x:Int)∈(nd ns p).kids:=by
 intro j
 induction j using Nat.strongRecOn with
 | _ j ih =>
  intro hj x h1 h2
  obtain⟨k,hk,h3,h4,h5⟩:=h.tile j hj x h1 (by omega)
  obtain⟨h6,h7,_⟩:=h.kid j hj k hk
  by_cases e:(x:Int)=k
  ·exact⟨j,h2,Nat.le_refl _,e▸hk⟩
  ·obtain⟨p,p1,p2,p3⟩:=ih k.toNat (by omega) (by omega) x h4 (by omega)
   exact⟨p,p1,by omega,p3⟩
theorem Std.above {ns:List Nd} {root:Int} (h:Std ns root) (x:Nat) (hx:(x:Int)<root):∃ p,x<p∧p<ns.length∧(x:Int)∈(nd ns p).kids:=by
 have h1:=h.rt
 have h2:=h.pos
 obtain⟨p,h3,h4,h5⟩:=h.up (ns.length - 1) (by omega) x (by rw [h.low];omega) (by omega)
 exact⟨p,h3,by omega,h5⟩
theorem Std.nest {ns:List Nd} {root:Int} (h:Std ns root):∀ j,j<ns.length→∀ x:Nat,lowS ns j<x→x≤j→lowS ns j≤lowS ns x:=by
 intro j
 induction j using Nat.strongRecOn with
 | _ j ih =>
  intro hj x h1 h2
  by_cases e:x=j
  ·subst e;exact Int.le_refl _
  ·obtain⟨k,hk,h3,h4,h5⟩:=h.tile j hj x h1 (by omega)
   obtain⟨h6,h7,h8⟩:=h.kid j hj k hk
   have:=ih k.toNat (by omega) (by omega) x h4 (by omega)
   omega
theorem Std.uniq {ns:List Nd} {root:Int} (h:Std ns root) {i j:Nat} (hi:i<ns.length) (hj:j<ns.length) {x:Int} (h1:x∈(nd ns i).kids) (h2:x∈(nd ns j).kids):i=j:=by
 have key:∀ i j:Nat,i<ns.length→j<ns.length→x∈(nd ns i).kids→x∈(nd ns j).kids→¬ i<j:=by
  intro i j hi hj h1 h2 hlt
  obtain⟨a1,a2,a3⟩:=h.kid i hi x h1
  obtain⟨b1,b2,b3⟩:=h.kid j hj x h2
  have a4:=(h.self x.toNat (by omega)).2
  obtain⟨k,hk,c1,c2,c3⟩:=h.tile j hj i (by omega) (by omega)
  obtain⟨d1,d2,d3⟩:=h.kid j hj k hk
  have e1:=h.nest k.toNat (by omega) i c2 (by omega)
  have e2:=h.apart j hj x h2 k hk (by omega)
  omega
 have n1:=key i j hi hj h1 h2
 have n2:=key j i hj hi h2 h1
 omega
theorem Std.par_kid {ns:List Nd} {root:Int} (h:Std ns root) {i:Nat} (hi:i<ns.length) {k:Int} (hk:k∈(nd ns i).kids):parF ns root k.toNat=(i:Int):=by
 unfold parF
 rw [parNs_yes (j:=i) hi ⟨k,hk,rfl⟩,Nat.zero_add]
 intro j' h1 h2 k' hk' e
 obtain⟨a1,a2,_⟩:=h.kid i hi k hk
 obtain⟨b1,b2,_⟩:=h.kid j' h2 k' hk'
 have:k'=k:=by omega
 subst this
 have:=h.uniq hi h2 hk hk'
 omega
theorem Std.par_root {ns:List Nd} {root:Int} (h:Std ns root):parF ns root root.toNat=-1:=by
 unfold parF
 rw [parNs_no]
 ·simp [setF]
 ·intro n hn k hk e
  obtain⟨q,hq,rfl⟩:=List.mem_iff_getElem.1 hn
  have hk:k∈(nd ns q).kids:=by simpa [nd,hq] using hk
  obtain⟨a1,a2,_⟩:=h.kid q hq k hk
  have:=h.rt
  omega
theorem Std.par_up {ns:List Nd} {root:Int} (h:Std ns root) (x:Nat) (hx:(x:Int)<root):∃ p,x<p∧p<ns.length∧(x:Int)∈(nd ns p).kids∧parF ns root x=(p:Int):=by
 obtain⟨p,h1,h2,h3⟩:=h.above x hx
 exact⟨p,h1,h2,h3,by have:=h.par_kid h2 h3;simpa using this⟩
def ownF (ns:List Nd) (root:Int):Nat→Nat→Int
 | 0,_=>-1
 | m+1,i=>if (nd ns i).k=3 then (i:Int) else if (i:Int)=root then -1 else ownF ns root m (parF ns root i).toNat
def own (ns:List Nd) (root:Int) (i:Nat):Int:=ownF ns root (ns.length - i) i
theorem ownF_more {ns:List Nd} {root:Int} (h:Std ns root):∀ (m m' i:Nat),i<ns.length→ns.length - i≤m→ns.length - i≤m'→ownF ns root m i=ownF ns root m' i:=by
 intro m
 induction m with
 | zero=>intro m' i hi h1;omega
 | succ m ih =>
  intro m' i hi h1 h2
  cases m' with
  | zero=>omega
  | succ m' =>
   simp only [ownF]
   split
   ·rfl
   split
   ·rfl
   rename_i _ hr
   obtain⟨p,p1,p2,_,p4⟩:=h.par_up i (by have:=h.rt;omega)
   rw [p4]
   exact ih _ _ (by omega) (by omega) (by omega)
theorem own_eq {ns:List Nd} {root:Int} (h:Std ns root) {i:Nat} (hi:i<ns.length) :
  own ns root i=if (nd ns i).k=3 then (i:Int) else if (i:Int)=root then -1 else own ns root (parF ns root i).toNat:=by
 unfold own
 obtain⟨m,hm⟩:∃ m,ns.length - i=m+1:=⟨ns.length - i - 1,by omega⟩
 rw [hm]
 simp only [ownF]
 split
 ·rfl
 split
 ·rfl
 rename_i _ hr
 obtain⟨p,p1,p2,_,p4⟩:=h.par_up i (by have:=h.rt;omega)
 rw [p4]
 exact ownF_more h _ _ _ (by omega) (by omega) (by omega)
theorem own_range {ns:List Nd} {root:Int} (h:Std ns root):∀ {i:Nat},i<ns.length→own ns root i=-1∨((i:Int)≤own ns root i∧own ns root i<ns.length∧(nd ns (own ns root i).toNat).k=3):=by
 have key:∀ m i,i<ns.length→ns.length - i≤m→own ns root i=-1∨((i:Int)≤own ns root i∧own ns root i<ns.length∧(nd ns (own ns root i).toNat).k=3):=by
  intro m
  induction m with
  | zero=>intro i hi h1;omega
  | succ m ih =>
   intro i hi h1
   rw [own_eq h hi]
   split
   ·rename_i h3;exact .inr ⟨Int.le_refl _,by omega,by simpa using h3⟩
   split
   ·exact .inl rfl
   rename_i _ hr
   obtain⟨p,p1,p2,_,p4⟩:=h.par_up i (by have:=h.rt;omega)
   rw [p4]
   rcases ih p p2 (by omega) with e|⟨e1,e2,e3⟩
   ·exact .inl (by simpa using e)
   ·exact .inr ⟨by simp only [Int.toNat_natCast];omega,by simpa using e2,by simpa using e3⟩
 exact fun {i} hi=>key _ i hi (Nat.le_refl _)
theorem own_kid {ns:List Nd} {root:Int} (h:Std ns root) {i:Nat} (hi:i<ns.length) {k:Int} (hk:k∈(nd ns i).kids) (h3:(nd ns k.toNat).k≠3):own ns root k.toNat=own ns root i:=by
 obtain⟨a1,a2,_⟩:=h.kid i hi k hk
 have:=h.rt
 rw [own_eq h (by omega:k.toNat<ns.length),if_neg h3,if_neg (by omega),h.par_kid hi hk]
 rfl
end Go.Ru
namespace Go.Ru
theorem cnt_le3 (p:Int→Bool):∀ (m:Nat) (l:List Int),cntS p m l≤l.length∧cntS p m l≤m∧∀ x∈l.take (cntS p m l),p x=true:=by
 intro m
 induction m with
 | zero=>intro l;simp [cntS]
 | succ m ih =>
  intro l
  cases l with
  | nil=>simp [cntS]
  | cons a l =>
   cases h:p a with
   | false=>rw [cnt_f h];simp
   | true =>
    rw [cnt_t h]
    obtain⟨h1,h2,h3⟩:=ih l
    refine⟨by simp;omega,by omega,fun x hx=>?_⟩
    rw [List.take_succ_cons] at hx
    rcases List.mem_cons.1 hx with rfl|hx
    ·exact h
    ·exact h3 x hx
def ShapeOf (k:Int) (l:List Int):Prop :=
 if k=1 then ∃ a b,l=a++b∧(∀ x∈a,x=2)∧(∀ x∈b,x=3)
 else if k=3 then ∃ a b,l=a++b++[6]∧(∀ x∈a,x=4)∧(∀ x∈b,x=5)
 else if k=6 then ∀ x∈l,stB x=true
 else if k=7∨k=17∨k=15∨k=23∨k=26 then ∃ a,l=[a]∧exB a=true
 else if k=8∨k=27 then ∃ a b,l=[a,b]∧exB a=true∧exB b=true
 else if k=9 then l=[18]
 else if k=10 then ∃ a,l=[18,a]∧exB a=true
 else if k=11 then ∃ a,l=[a,6,6]∧exB a=true
 else if k=12 then ∃ a,l=[a,6]∧exB a=true
 else if k=13 then ∃ a,l=19::a∧∀ x∈a,exB x=true
 else if k=14 then l=[]∨∃ a,l=[a]∧exB a=true
 else if k=16 then l=[6,6]
 else l=[]
theorem cnt_split {p q:Int→Bool} {m m':Nat} {l:List Int} (h:cntS p m l+cntS q m' (l.drop (cntS p m l))=l.length) :
  ∃ a b,l=a++b∧(∀ x∈a,p x=true)∧(∀ x∈b,q x=true):=by
 obtain⟨h1,_,h3⟩:=cnt_le3 p m l
 obtain⟨h4,_,h6⟩:=cnt_le3 q m' (l.drop (cntS p m l))
 refine⟨_,_,(List.take_append_drop (cntS p m l) l).symm,h3,?_⟩
 rw [List.take_of_length_le (by rw [List.length_drop];omega)] at h6
 exact h6
theorem shape_of {k:Int} {l:List Int} (h:kidsOkS k l=true):ShapeOf k l:=by
 have is2:∀ {c:Int} {x:Int},(x==c)=true→x=c:=fun h=>by simpa using h
 unfold kidsOkS at h
 extract_lets at h
 unfold ShapeOf
 by_cases h1:k=1
 ·rw [if_pos h1]
  rw [if_pos h1] at h
  simp (config:={zetaDelta:=true}) only [List.drop_zero,Nat.zero_add,beq_iff_eq] at h
  obtain⟨x,y,h2,h3,h4⟩:=cnt_split (p:=fun k=>k==2) (q:=fun k=>k==3) (m:=4000) (m':=4000) (l:=l) (by omega)
  exact⟨x,y,h2,fun x hx=>is2 (h3 x hx),fun x hx=>is2 (h4 x hx)⟩
 rw [if_neg h1] at h ⊢
 by_cases h2:k=3
 ·rw [if_pos h2]
  rw [if_pos h2] at h
  simp (config:={zetaDelta:=true}) only [List.drop_zero,Nat.zero_add,Bool.and_eq_true,beq_iff_eq] at h
  obtain⟨g1,g2⟩:=h
  obtain⟨a1,_,a3⟩:=cnt_le3 (fun k=>k==4) 4000 l
  generalize hi:cntS (fun k=>k==4) 4000 l=i at *
  obtain⟨b1,_,b3⟩:=cnt_le3 (fun k=>k==5) 4000 (l.drop i)
  generalize hj:cntS (fun k=>k==5) 4000 (l.drop i)=j at *
  obtain⟨c1,_,c3⟩:=cnt_le3 (fun k=>k==6) 1 (l.drop (i+j))
  rw [g1] at c1 c3 g2
  rw [List.length_drop] at b1 c1
  have e1:l.drop (i+j)=[6]:=by
   have:(l.drop (i+j)).length=1:=by rw [List.length_drop];omega
   match hl:l.drop (i+j),this with
   | [x],_ =>
    rw [hl] at c3
    have:=is2 (c3 x (by simp))
    rw [this]
  refine⟨l.take i,(l.drop i).take j,?_,fun x hx=>is2 (a3 x hx),fun x hx=>is2 (b3 x hx)⟩
  rw [← e1,List.append_assoc,← List.drop_drop,List.take_append_drop,List.take_append_drop]
 rw [if_neg h2] at h ⊢
 by_cases h3:k=6
 ·rw [if_pos h3]
  rw [if_pos h3] at h
  simp (config:={zetaDelta:=true}) only [List.drop_zero] at h
  obtain⟨a1,_,a3⟩:=cnt_le3 stB 4000 l
  simp only [beq_iff_eq] at h
  rw [List.take_of_length_le (by omega)] at a3
  exact a3
 rw [if_neg h3] at h ⊢
 have one:∀ {p:Int→Bool} {l:List Int},cntS p 1 l=1→∃ a r,l=a::r∧p a=true:=fun {p l} h=>by
  cases l with
  | nil=>simp [cntS] at h
  | cons a r =>
   cases hp:p a with
   | false=>rw [cnt_f hp] at h;cases h
   | true=>exact⟨a,r,rfl,hp⟩
 have dos:∀ {p:Int→Bool} {l:List Int},cntS p 2 l=2→∃ a b r,l=a::b::r∧p a=true∧p b=true:=fun {p l} h=>by
  cases l with
  | nil=>simp [cntS] at h
  | cons a r =>
   cases hp:p a with
   | false=>rw [cnt_f hp] at h;cases h
   | true =>
    rw [cnt_t hp] at h
    obtain⟨b,r,rfl,hb⟩:=one (by omega:cntS p 1 r=1)
    exact⟨a,b,r,rfl,hp,hb⟩
 have nil:∀ {r:List Int},r.length=0→r=[]:=fun {r} h=>List.length_eq_zero_iff.1 h
 by_cases h4:k=7∨k=17∨k=15∨k=23∨k=26
 ·rw [if_pos h4]
  rw [if_pos h4] at h
  simp (config:={zetaDelta:=true}) only [List.drop_zero,Nat.zero_add,Bool.and_eq_true,beq_iff_eq] at h
  obtain⟨g1,g2⟩:=h
  obtain⟨a,r,rfl,ha⟩:=one g1
  rw [g1] at g2
  have:=nil (r:=r) (by simp only [List.length_cons] at g2;omega)
  subst this
  exact⟨a,rfl,ha⟩
 rw [if_neg h4] at h ⊢
 by_cases h5:k=8∨k=27
 ·rw [if_pos h5]
  rw [if_pos h5] at h
  simp (config:={zetaDelta:=true}) only [List.drop_zero,Nat.zero_add,Bool.and_eq_true,beq_iff_eq] at h
  obtain⟨g1,g2⟩:=h
  obtain⟨a,b,r,rfl,ha,hb⟩:=dos g1
  rw [g1] at g2
  have:=nil (r:=r) (by simp only [List.length_cons] at g2;omega)
  subst this
  exact⟨a,b,rfl,ha,hb⟩
 rw [if_neg h5] at h ⊢
 by_cases h6:k=9
 ·rw [if_pos h6]
  rw [if_pos h6] at h
  simp (config:={zetaDelta:=true}) only [List.drop_zero,Nat.zero_add,Bool.and_eq_true,beq_iff_eq] at h
  obtain⟨g1,g2⟩:=h
  obtain⟨a,r,rfl,ha⟩:=one g1
  rw [g1] at g2
  have:=nil (r:=r) (by simp only [List.length_cons] at g2;omega)
  subst this
  rw [is2 ha]
 rw [if_neg h6] at h ⊢
 by_cases h7:k=10
 ·rw [if_pos h7]
  rw [if_pos h7] at h
  simp (config:={zetaDelta:=true}) only [List.drop_zero,Nat.zero_add,Bool.and_eq_true,beq_iff_eq] at h
  obtain⟨g1,g2,g3⟩:=h
  obtain⟨a,r,rfl,ha⟩:=one g1
  rw [g1] at g2 g3
  simp only [List.drop_succ_cons,List.drop_zero] at g2 g3
  obtain⟨b,r,rfl,hb⟩:=one g2
  rw [g2] at g3
  have:=nil (r:=r) (by simp only [List.length_cons] at g3;omega)
  subst this
  exact⟨b,by rw [is2 ha],hb⟩
 rw [if_neg h7] at h ⊢
 by_cases h8:k=11
 ·rw [if_pos h8]
  rw [if_pos h8] at h
  simp (config:={zetaDelta:=true}) only [List.drop_zero,Nat.zero_add,Bool.and_eq_true,beq_iff_eq] at h
  obtain⟨g1,g2,g3⟩:=h
  obtain⟨a,r,rfl,ha⟩:=one g1
  rw [g1] at g2 g3
  simp only [List.drop_succ_cons,List.drop_zero] at g2 g3
  obtain⟨b,c,r,rfl,hb,hc⟩:=dos g2
  rw [g2] at g3
  have:=nil (r:=r) (by simp only [List.length_cons] at g3;omega)
  subst this
  exact⟨a,by rw [is2 hb,is2 hc],ha⟩
 rw [if_neg h8] at h ⊢
 by_cases h9:k=12
 ·rw [if_pos h9]
  rw [if_pos h9] at h
  simp (config:={zetaDelta:=true}) only [List.drop_zero,Nat.zero_add,Bool.and_eq_true,beq_iff_eq] at h
  obtain⟨g1,g2,g3⟩:=h
  obtain⟨a,r,rfl,ha⟩:=one g1
  rw [g1] at g2 g3
  simp only [List.drop_succ_cons,List.drop_zero] at g2 g3
  obtain⟨b,r,rfl,hb⟩:=one g2
  rw [g2] at g3
  have:=nil (r:=r) (by simp only [List.length_cons] at g3;omega)
  subst this
  exact⟨a,by rw [is2 hb],ha⟩
 rw [if_neg h9] at h ⊢
 by_cases h10:k=13
 ·rw [if_pos h10]
  rw [if_pos h10] at h
  simp (config:={zetaDelta:=true}) only [List.drop_zero,Nat.zero_add,Bool.and_eq_true,beq_iff_eq] at h
  obtain⟨g1,g2⟩:=h
  obtain⟨a,r,rfl,ha⟩:=one g1
  rw [g1] at g2
  simp only [List.drop_succ_cons,List.drop_zero] at g2
  obtain⟨b1,_,b3⟩:=cnt_le3 exB 4000 r
  rw [List.take_of_length_le (by simp only [List.length_cons] at g2;omega)] at b3
  exact⟨r,by rw [is2 ha],b3⟩
 rw [if_neg h10] at h ⊢
 by_cases h11:k=14
 ·rw [if_pos h11]
  rw [if_pos h11] at h
  simp (config:={zetaDelta:=true}) only [List.drop_zero,Nat.zero_add,beq_iff_eq] at h
  obtain⟨b1,b2,b3⟩:=cnt_le3 exB 1 l
  cases l with
  | nil=>exact .inl rfl
  | cons a r =>
   simp only [List.length_cons] at h
   have:=nil (r:=r) (by omega)
   subst this
   refine .inr ⟨a,rfl,b3 a ?_⟩
   have:cntS exB 1 [a]=1:=by simp only [List.length_nil] at h;omega
   rw [this];simp
 rw [if_neg h11] at h ⊢
 by_cases h12:k=16
 ·rw [if_pos h12]
  rw [if_pos h12] at h
  simp (config:={zetaDelta:=true}) only [List.drop_zero,Nat.zero_add,Bool.and_eq_true,beq_iff_eq] at h
  obtain⟨g1,g2⟩:=h
  obtain⟨a,b,r,rfl,ha,hb⟩:=dos g1
  rw [g1] at g2
  have:=nil (r:=r) (by simp only [List.length_cons] at g2;omega)
  subst this
  rw [is2 ha,is2 hb]
 rw [if_neg h12] at h ⊢
 simp (config:={zetaDelta:=true}) only [beq_iff_eq] at h
 exact nil (by omega)
structure RightT (ns:List Nd) (root:Int):Prop extends Std ns root where
 ok:rightS ns root=true
 top:(nd ns root.toNat).k=1
 kr:∀ i,i<ns.length→1≤(nd ns i).k∧(nd ns i).k≤27
 tx:∀ i,i<ns.length→textS (nd ns i).k (nd ns i).tx=true
 num:∀ i,i<ns.length→numberS (nd ns i).k (nd ns i).n=true
 shape:∀ i,i<ns.length→ShapeOf (nd ns i).k (kindsS ns (nd ns i))
theorem right_of {ns:List Nd} {root:Int} (h:rightS ns root=true):RightT ns root:=by
 have h0:=h
 simp only [rightS,Bool.and_eq_true,beq_iff_eq,decide_eq_true_eq] at h
 obtain⟨⟨⟨h1,h2⟩,h3⟩,h4⟩:=h
 have h5:∀ i,i<ns.length→nodeOkS ns (nd ns i)=true:=fun i hi=>by
  rw [List.all_eq_true] at h4
  refine h4 _ ?_
  simp only [nd,List.getD_eq_getElem?_getD,List.getElem?_eq_getElem hi,Option.getD_some]
  exact List.getElem_mem hi
 have h6:∀ i,i<ns.length→_:=fun i hi=>by
  have:=h5 i hi
  simp only [nodeOkS,Bool.and_eq_true,decide_eq_true_eq] at this
  exact this
 exact⟨std_of h1,h0,h3,fun i hi=>⟨(h6 i hi).1.1.1.1,(h6 i hi).1.1.1.2⟩,fun i hi=>(h6 i hi).1.1.2,fun i hi=>(h6 i hi).1.2,fun i hi=>shape_of (h6 i hi).2⟩
theorem kid_kind {k x:Int} {l:List Int} (h:ShapeOf k l) (hx:x∈l) :
  (k=1∧(x=2∨x=3))∨(k=3∧(x=4∨x=5∨x=6))∨(k=6∧stB x=true)∨(7≤k∧k≤27∧exB x=true)∨((k=9∨k=10)∧x=18)∨((k=11∨k=12∨k=16)∧x=6)∨(k=13∧x=19):=by
 unfold ShapeOf at h
 have ex:exB x=true→7≤k→k≤27→(k=1∧(x=2∨x=3))∨(k=3∧(x=4∨x=5∨x=6))∨(k=6∧stB x=true)∨(7≤k∧k≤27∧exB x=true)∨((k=9∨k=10)∧x=18)∨((k=11∨k=12∨k=16)∧x=6)∨(k=13∧x=19) :=
  fun a b c=>.inr (.inr (.inr (.inl ⟨b,c,a⟩)))
 by_cases h1:k=1
 ·rw [if_pos h1] at h
  obtain⟨a,b,rfl,p,q⟩:=h
  rcases List.mem_append.1 hx with m|m
  ·have:=p x m;omega
  ·have:=q x m;omega
 rw [if_neg h1] at h
 by_cases h2:k=3
 ·rw [if_pos h2] at h
  obtain⟨a,b,rfl,p,q⟩:=h
  rcases List.mem_append.1 hx with m|m
  ·rcases List.mem_append.1 m with m|m
   ·have:=p x m;omega
   ·have:=q x m;omega
  ·simp only [List.mem_cons,List.not_mem_nil,or_false] at m;omega
 rw [if_neg h2] at h
 by_cases h3:k=6
 ·rw [if_pos h3] at h
  exact .inr (.inr (.inl ⟨h3,h x hx⟩))
 rw [if_neg h3] at h
 by_cases h4:k=7∨k=17∨k=15∨k=23∨k=26
 ·rw [if_pos h4] at h
  obtain⟨a,rfl,p⟩:=h
  simp only [List.mem_cons,List.not_mem_nil,or_false] at hx
  exact ex (hx▸p) (by omega) (by omega)
 rw [if_neg h4] at h
 by_cases h5:k=8∨k=27
 ·rw [if_pos h5] at h
  obtain⟨a,b,rfl,p,q⟩:=h
  simp only [List.mem_cons,List.not_mem_nil,or_false] at hx
  rcases hx with m|m
  ·exact ex (m▸p) (by omega) (by omega)
  ·exact ex (m▸q) (by omega) (by omega)
 rw [if_neg h5] at h
 by_cases h6:k=9
 ·rw [if_pos h6] at h
  subst h
  simp only [List.mem_cons,List.not_mem_nil,or_false] at hx
  omega
 rw [if_neg h6] at h
 by_cases h7:k=10
 ·rw [if_pos h7] at h
  obtain⟨a,rfl,p⟩:=h
  simp only [List.mem_cons,List.not_mem_nil,or_false] at hx
  rcases hx with m|m
  ·omega
  ·exact ex (m▸p) (by omega) (by omega)
 rw [if_neg h7] at h
 by_cases h8:k=11
 ·rw [if_pos h8] at h
  obtain⟨a,rfl,p⟩:=h
  simp only [List.mem_cons,List.not_mem_nil,or_false] at hx
  rcases hx with m|m|m
  ·exact ex (m▸p) (by omega) (by omega)
  ·omega
  ·omega
 rw [if_neg h8] at h
 by_cases h9:k=12
 ·rw [if_pos h9] at h
  obtain⟨a,rfl,p⟩:=h
  simp only [List.mem_cons,List.not_mem_nil,or_false] at hx
  rcases hx with m|m
  ·exact ex (m▸p) (by omega) (by omega)
  ·omega
 rw [if_neg h9] at h
 by_cases h10:k=13
 ·rw [if_pos h10] at h
  obtain⟨a,rfl,p⟩:=h
  rcases List.mem_cons.1 hx with m|m
  ·omega
  ·exact ex (p x m) (by omega) (by omega)
 rw [if_neg h10] at h
 by_cases h11:k=14
 ·rw [if_pos h11] at h
  rcases h with rfl|⟨a,rfl,p⟩
  ·simp at hx
  ·simp only [List.mem_cons,List.not_mem_nil,or_false] at hx
   exact ex (hx▸p) (by omega) (by omega)
 rw [if_neg h11] at h
 by_cases h12:k=16
 ·rw [if_pos h12] at h
  subst h
  simp only [List.mem_cons,List.not_mem_nil,or_false] at hx
  omega
 rw [if_neg h12] at h
 subst h
 simp at hx
end Go.Ru
namespace Go.Ru
def firstB (p:Nat→Bool):Nat→Option Nat
 | 0=>none
 | n+1=>match firstB p n with
  | some j=>some j
  | none=>match p n with
   | true=>some n
   | false=>none
theorem firstB_some {p:Nat→Bool} {n j:Nat} (h:firstB p n=some j):j<n∧p j=true∧∀ i,i<j→p i=false:=by
 induction n with
 | zero=>simp [firstB] at h
 | succ n ih =>
  simp only [firstB] at h
  split at h
  ·rename_i j' hj'
   injection h with h
   subst h
   obtain⟨h1,h2,h3⟩:=ih hj'
   exact⟨by omega,h2,h3⟩
  ·rename_i hn
   split at h
   ·rename_i hp
    injection h with h
    subst h
    refine⟨by omega,hp,fun i hi=>?_⟩
    clear ih hp
    have key:∀ m,firstB p m=none→∀ i,i<m→p i=false:=by
     intro m
     induction m with
     | zero=>intro _ i hi;omega
     | succ m ihm =>
      intro hm i hi
      simp only [firstB] at hm
      split at hm
      ·cases hm
      ·rename_i hm'
       split at hm
       ·cases hm
       ·rename_i hq
        by_cases e:i=m
        ·subst e;exact hq
        ·exact ihm hm' i (by omega)
    exact key n hn i hi
   ·cases h
theorem firstB_none {p:Nat→Bool} {n:Nat} (h:firstB p n=none):∀ i,i<n→p i=false:=by
 induction n with
 | zero=>intro i hi;omega
 | succ n ih =>
  intro i hi
  simp only [firstB] at h
  split at h
  ·cases h
  ·rename_i hn
   split at h
   ·cases h
   ·rename_i hp
    by_cases e:i=n
    ·subst e;exact hp
    ·exact ih hn i (by omega)
theorem firstB_ex {p:Nat→Bool} {n i:Nat} (hi:i<n) (hp:p i=true):∃ j,firstB p n=some j∧j≤i:=by
 cases h:firstB p n with
 | none=>rw [firstB_none h i hi] at hp;cases hp
 | some j =>
  refine⟨j,rfl,?_⟩
  obtain⟨_,_,h3⟩:=firstB_some h
  by_cases e:i<j
  ·rw [h3 i e] at hp;cases hp
  ·omega
theorem firstB_eq {p:Nat→Bool} {n j:Nat} (h1:j<n) (h2:p j=true) (h3:∀ i,i<j→p i=false):firstB p n=some j:=by
 obtain⟨j',h4,h5⟩:=firstB_ex h1 h2
 obtain⟨_,h6,_⟩:=firstB_some h4
 by_cases e:j'<j
 ·rw [h3 j' e] at h6;cases h6
 ·rw [h4];congr 1;omega
section
variable (ns:List Nd) (root:Int)
def globP (name:Bs) (i:Nat):Bool:=(nd ns i).k==2&&(nd ns i).tx==name
def procP (name:Bs) (i:Nat):Bool:=(nd ns i).k==3&&(nd ns i).tx==name
def locP (o:Int) (name:Bs) (i:Nat):Bool:=((nd ns i).k==4 || (nd ns i).k==5)&&(own ns root i==o&&(nd ns i).tx==name)
def globS (name:Bs):Option Nat:=firstB (globP ns name) ns.length
def tprocS (name:Bs):Option Nat:=firstB (procP ns name) ns.length
def locS (o:Int) (name:Bs):Option Nat:=firstB (locP ns root o name) ns.length
def natO:Option Nat→Int
 | some d=>(d:Int)
 | none=>-1
def meansS (i:Nat) (name:Bs):Int:=match own ns root i==-1 with
 | true=>-1
 | false=>match locS ns root (own ns root i) name with
  | some d=>(d:Int)
  | none=>natO (globS ns name)
def procI (name:Bs):Int:=natO (tprocS ns name)
def kindS (i:Nat) (name:Bs):Int:=match meansS ns root i name != -1 with
 | true=>(nd ns (meansS ns root i name).toNat).n
 | false=>0
def paramsS (p:Nat):List Int:=((nd ns p).kids.filter fun q=>(nd ns q.toNat).k==4).map fun q=>(nd ns q.toNat).n
def tplainS (p:Nat):Bool:=paramsS ns p==[1]&&(nd ns p).n==1
def arith (t:Bs):Bool:=t==[43] || t==[45] || t==[42] || t==[47] || t==[37]
def tyS (i:Nat):Int :=
 let n:=nd ns i
 if n.k=20∨n.k=23∨n.k=24 then 1
 else if n.k=21 then 2
 else if n.k=25 then 4
 else if n.k=22 then kindS ns root i n.tx
 else if n.k=26∨n.k=27 then (if arith n.tx then 1 else 2)
 else 0
def allS (l:List Int) (kind:Int):Bool:=l.all fun q=>tyS ns root q.toNat==kind
def operandsS (n:Nd):Bool :=
 if n.tx=[33]∨n.tx=[38,38]∨n.tx=[124,124] then allS ns root n.kids 2
 else if n.tx=[61,61]∨n.tx=[33,61] then allS ns root n.kids 1 || allS ns root n.kids 2
 else allS ns root n.kids 1
def toldS (b:Bool):Int:=if b then 0 else 5
def tnamedS (i:Nat) (fits:Int→Bool):Int :=
 if meansS ns root i (nd ns i).tx=-1 then 3 else toldS (fits (kindS ns root i (nd ns i).tx))
def fitS:List Int→List Int→Bool
 | [],[]=>true
 | q::l,w::r=>tyS ns root q.toNat==w&&fitS l r
 | _,_=>false
def tcallS (i:Nat) (n:Nd):Int :=
 let name:=(nd ns ((n.kids.getD 0 0).toNat)).tx
 let d:=meansS ns root i name
 let p:=procI ns name
 if (d=-1∧p=-1)∨(n.tx≠[]∧meansS ns root i n.tx=-1) then 3
 else if d=-1 then toldS (fitS ns root n.kids.tail (paramsS ns p.toNat)&&(n.tx==[] || ((nd ns p.toNat).n != 0&&kindS ns root i n.tx==(nd ns p.toNat).n)))
 else if (nd ns d.toNat).n≠4 then 5
 else toldS (fitS ns root n.kids.tail [1]&&(n.tx==[] || kindS ns root i n.tx==1))
def natZ:Option Nat→Int
 | some d=>(d:Int)
 | none=>0
def twiceS (i:Nat) (n:Nd):Bool :=
 if n.k=4∨n.k=5 then natZ (locS ns root (own ns root i) n.tx) != (i:Int)
 else if n.k=2 then natZ (globS ns n.tx) != (i:Int)
 else (globS ns n.tx).isSome || natZ (tprocS ns n.tx) != (i:Int)
def checkS (i:Nat):Int :=
 let n:=nd ns i
 if n.k=2∨n.k=3∨n.k=4∨n.k=5 then (if twiceS ns root i n then 4 else 0)
 else if n.k=22 then tnamedS ns root i fun _=>true
 else if n.k=23∨n.k=8∨n.k=17 then tnamedS ns root i fun k=>k==3&&allS ns root n.kids 1
 else if n.k=24 then tnamedS ns root i fun k=>k==3
 else if n.k=9∨n.k=16 then tnamedS ns root i fun k=>k==1
 else if n.k=7 then tnamedS ns root i fun k=>k==tyS ns root (n.kids.getD 0 0).toNat
 else if n.k=25 then (if procI ns n.tx=-1 then 3 else toldS (tplainS ns (procI ns n.tx).toNat))
 else if n.k=26∨n.k=27 then toldS (operandsS ns root n)
 else if n.k=10 then toldS (allS ns root n.kids.tail 1)
 else if n.k=15 then toldS (allS ns root n.kids 1)
 else if n.k=11∨n.k=12 then toldS (allS ns root (n.kids.take 1) 2)
 else if n.k=13 then tcallS ns root i n
 else if n.k=14 then toldS (((nd ns (own ns root i).toNat).n==0)==(n.kids.length==0)&&allS ns root n.kids (nd ns (own ns root i).toNat).n)
 else 0
def wrongS:Nat→Nat→Option (Nat×Int)
 | _,0=>none
 | i,m+1=>match checkS ns root i==0 with
  | true=>wrongS (i+1) m
  | false=>some (i,checkS ns root i)
def mainT:Bs:=[109,97,105,110]
def checkTree:Int×Int:=match rightS ns root with
 | false=>(0,1)
 | true=>match wrongS ns root 0 ns.length with
  | some (i,e)=>((i:Int),e)
  | none=>match procI ns mainT==-1 || ((nd ns (procI ns mainT).toNat).n != 0 || decide (0<(paramsS ns (procI ns mainT).toNat).length)) with
   | true=>(root,11)
   | false=>(0,0)
def insT (i:Int):Bool:=decide (0≤i)&&decide (i<ns.length)&&rightS ns root
def ownerT (i:Int):Int:=if insT ns root i then own ns root i.toNat else -1
end
theorem natO_range {p:Nat→Bool} {n:Nat}:natO (firstB p n)=-1∨(0≤natO (firstB p n)∧natO (firstB p n)<n∧p (natO (firstB p n)).toNat=true):=by
 cases h:firstB p n with
 | none=>exact .inl rfl
 | some j =>
  obtain⟨h1,h2,_⟩:=firstB_some h
  exact .inr ⟨by simp [natO],by simp only [natO];omega,by simpa [natO] using h2⟩
theorem means_range (ns:List Nd) (root:Int) (i:Nat) (name:Bs):meansS ns root i name=-1∨(0≤meansS ns root i name∧meansS ns root i name<ns.length):=by
 unfold meansS
 split
 ·exact .inl rfl
 ·split
  ·rename_i d hd
   obtain⟨h1,_⟩:=firstB_some hd
   exact .inr ⟨by omega,by omega⟩
  ·rcases natO_range (p:=globP ns name) (n:=ns.length) with h|⟨h1,h2,_⟩
   ·exact .inl h
   ·exact .inr ⟨h1,h2⟩
theorem procI_range (ns:List Nd) (name:Bs):procI ns name=-1∨(0≤procI ns name∧procI ns name<ns.length∧(nd ns (procI ns name).toNat).k=3):=by
 rcases natO_range (p:=procP ns name) (n:=ns.length) with h|⟨h1,h2,h3⟩
 ·exact .inl h
 ·exact .inr ⟨h1,h2,by simp only [procP,Bool.and_eq_true,beq_iff_eq] at h3;exact h3.1⟩
end Go.Ru
namespace Go.Ru
theorem kinds_get {ns:List Nd} {n:Nd} {j:Nat} (hj:j<n.kids.length):(kindsS ns n)[j]?=some (nd ns (n.kids.getD j 0).toNat).k:=by
 simp [kindsS,nd,List.getElem?_map,hj]
theorem kinds_mem {ns:List Nd} {n:Nd} {q:Int} (h:q∈n.kids):(nd ns q.toNat).k∈kindsS ns n:=List.mem_map.2 ⟨q,h,rfl⟩
theorem kinds_len (ns:List Nd) (n:Nd):(kindsS ns n).length=n.kids.length:=by simp [kindsS]
section
variable {ns:List Nd} {root:Int} (h:RightT ns root)
include h
theorem RightT.up {i:Nat} (hi:i<ns.length) (hr:(i:Int)≠root):∃ p,i<p∧p<ns.length∧(i:Int)∈(nd ns p).kids∧parF ns root i=(p:Int):=by
 have:=h.rt
 exact h.toStd.par_up i (by omega)
theorem RightT.notroot {i:Nat} (_:i<ns.length) (hk:(nd ns i).k≠1):(i:Int)≠root:=fun e=>by
 have:=h.top
 rw [← e] at this
 exact hk (by simpa using this)
theorem RightT.decl {i:Nat} (hi:i<ns.length) (hk:(nd ns i).k=4∨(nd ns i).k=5):∃ p,i<p∧p<ns.length∧(i:Int)∈(nd ns p).kids∧(nd ns p).k=3∧own ns root i=(p:Int):=by
 obtain⟨p,h1,h2,h3,h4⟩:=h.up hi (h.notroot hi (by omega))
 have h5:=kid_kind (h.shape p h2) (kinds_mem h3)
 simp only [Int.toNat_natCast] at h5
 have h6:(nd ns p).k=3:=by
  rcases h5 with ⟨_,h5⟩|⟨h5,_⟩|⟨_,h5⟩|⟨_,_,h5⟩|⟨_,h5⟩|⟨_,h5⟩|⟨_,h5⟩
  ·omega
  ·exact h5
  ·simp only [stB,Bool.and_eq_true,decide_eq_true_eq] at h5;omega
  ·simp only [exB,Bool.and_eq_true,decide_eq_true_eq] at h5;omega
  ·omega
  ·omega
  ·omega
 refine⟨p,h1,h2,h3,h6,?_⟩
 have h7:=own_kid h.toStd h2 h3 (by simp only [Int.toNat_natCast];omega)
 simp only [Int.toNat_natCast] at h7
 rw [h7,own_eq h.toStd h2,if_pos h6]
theorem RightT.owned:∀ (m i:Nat),ns.length - i≤m→i<ns.length→(nd ns i).k≠1→(nd ns i).k≠2→0≤own ns root i∧own ns root i<ns.length:=by
 intro m
 induction m with
 | zero=>intro i h1 h2;omega
 | succ m ih =>
  intro i h1 hi k1 k2
  rw [own_eq h.toStd hi]
  by_cases k3:(nd ns i).k=3
  ·rw [if_pos k3];omega
  rw [if_neg k3,if_neg (h.notroot hi k1)]
  obtain⟨p,p1,p2,p3,p4⟩:=h.up hi (h.notroot hi k1)
  have h5:=kid_kind (h.shape p p2) (kinds_mem p3)
  simp only [Int.toNat_natCast] at h5
  rw [p4,Int.toNat_natCast]
  refine ih p (by omega) p2 ?_ ?_
  ·omega
  ·omega
omit h in
theorem told_ok {b:Bool} (h:toldS b=0):b=true:=by
 cases b with
 | true=>rfl
 | false=>simp [toldS] at h
omit h in
theorem named_ok {i:Nat} {fits:Int→Bool} (hc:tnamedS ns root i fits=0):0≤meansS ns root i (nd ns i).tx∧fits (nd ns (meansS ns root i (nd ns i).tx).toNat).n=true∧kindS ns root i (nd ns i).tx=(nd ns (meansS ns root i (nd ns i).tx).toNat).n:=by
 unfold tnamedS at hc
 split at hc
 ·cases hc
 rename_i hd
 have hk:kindS ns root i (nd ns i).tx=(nd ns (meansS ns root i (nd ns i).tx).toNat).n:=by
  unfold kindS
  rw [show (meansS ns root i (nd ns i).tx != -1)=true by simpa using hd]
 rw [hk] at hc
 refine⟨?_,told_ok hc,hk⟩
 rcases means_range ns root i (nd ns i).tx with e|⟨e,_⟩
 ·exact absurd e hd
 ·exact e
end
theorem ck2 {ns:List Nd} {root:Int} {i:Nat} (h:(nd ns i).k=2):checkS ns root i=if twiceS ns root i (nd ns i) then 4 else 0:=by simp [checkS,h]
theorem ck3 {ns:List Nd} {root:Int} {i:Nat} (h:(nd ns i).k=3):checkS ns root i=if twiceS ns root i (nd ns i) then 4 else 0:=by simp [checkS,h]
theorem ck4 {ns:List Nd} {root:Int} {i:Nat} (h:(nd ns i).k=4):checkS ns root i=if twiceS ns root i (nd ns i) then 4 else 0:=by simp [checkS,h]
theorem ck5 {ns:List Nd} {root:Int} {i:Nat} (h:(nd ns i).k=5):checkS ns root i=if twiceS ns root i (nd ns i) then 4 else 0:=by simp [checkS,h]
theorem ck22 {ns:List Nd} {root:Int} {i:Nat} (h:(nd ns i).k=22):checkS ns root i=tnamedS ns root i fun _=>true:=by simp [checkS,h]
theorem ck23 {ns:List Nd} {root:Int} {i:Nat} (h:(nd ns i).k=23):checkS ns root i=tnamedS ns root i fun k=>k==3&&allS ns root (nd ns i).kids 1:=by simp [checkS,h]
theorem ck8 {ns:List Nd} {root:Int} {i:Nat} (h:(nd ns i).k=8):checkS ns root i=tnamedS ns root i fun k=>k==3&&allS ns root (nd ns i).kids 1:=by simp [checkS,h]
theorem ck17 {ns:List Nd} {root:Int} {i:Nat} (h:(nd ns i).k=17):checkS ns root i=tnamedS ns root i fun k=>k==3&&allS ns root (nd ns i).kids 1:=by simp [checkS,h]
theorem ck24 {ns:List Nd} {root:Int} {i:Nat} (h:(nd ns i).k=24):checkS ns root i=tnamedS ns root i fun k=>k==3:=by simp [checkS,h]
theorem ck9 {ns:List Nd} {root:Int} {i:Nat} (h:(nd ns i).k=9):checkS ns root i=tnamedS ns root i fun k=>k==1:=by simp [checkS,h]
theorem ck16 {ns:List Nd} {root:Int} {i:Nat} (h:(nd ns i).k=16):checkS ns root i=tnamedS ns root i fun k=>k==1:=by simp [checkS,h]
theorem ck7 {ns:List Nd} {root:Int} {i:Nat} (h:(nd ns i).k=7):checkS ns root i=tnamedS ns root i fun k=>k==tyS ns root ((nd ns i).kids.getD 0 0).toNat:=by simp [checkS,h]
theorem ck25 {ns:List Nd} {root:Int} {i:Nat} (h:(nd ns i).k=25):checkS ns root i=if procI ns (nd ns i).tx=-1 then 3 else toldS (tplainS ns (procI ns (nd ns i).tx).toNat):=by simp [checkS,h]
theorem ck26 {ns:List Nd} {root:Int} {i:Nat} (h:(nd ns i).k=26):checkS ns root i=toldS (operandsS ns root (nd ns i)):=by simp [checkS,h]
theorem ck27 {ns:List Nd} {root:Int} {i:Nat} (h:(nd ns i).k=27):checkS ns root i=toldS (operandsS ns root (nd ns i)):=by simp [checkS,h]
theorem ck10 {ns:List Nd} {root:Int} {i:Nat} (h:(nd ns i).k=10):checkS ns root i=toldS (allS ns root (nd ns i).kids.tail 1):=by simp [checkS,h]
theorem ck15 {ns:List Nd} {root:Int} {i:Nat} (h:(nd ns i).k=15):checkS ns root i=toldS (allS ns root (nd ns i).kids 1):=by simp [checkS,h]
theorem ck11 {ns:List Nd} {root:Int} {i:Nat} (h:(nd ns i).k=11):checkS ns root i=toldS (allS ns root ((nd ns i).kids.take 1) 2):=by simp [checkS,h]
theorem ck12 {ns:List Nd} {root:Int} {i:Nat} (h:(nd ns i).k=12):checkS ns root i=toldS (allS ns root ((nd ns i).kids.take 1) 2):=by simp [checkS,h]
theorem ck13 {ns:List Nd} {root:Int} {i:Nat} (h:(nd ns i).k=13):checkS ns root i=tcallS ns root i (nd ns i):=by simp [checkS,h]
theorem ck14 {ns:List Nd} {root:Int} {i:Nat} (h:(nd ns i).k=14):checkS ns root i=toldS (((nd ns (own ns root i).toNat).n==0)==((nd ns i).kids.length==0)&&allS ns root (nd ns i).kids (nd ns (own ns root i).toNat).n):=by simp [checkS,h]
theorem ckD {ns:List Nd} {root:Int} {i:Nat} (h2:(nd ns i).k≠2) (h3:(nd ns i).k≠3) (h4:(nd ns i).k≠4) (h5:(nd ns i).k≠5) (h22:(nd ns i).k≠22) (h23:(nd ns i).k≠23) (h8:(nd ns i).k≠8) (h17:(nd ns i).k≠17) (h24:(nd ns i).k≠24) (h9:(nd ns i).k≠9) (h16:(nd ns i).k≠16) (h7:(nd ns i).k≠7) (h25:(nd ns i).k≠25) (h26:(nd ns i).k≠26) (h27:(nd ns i).k≠27) (h10:(nd ns i).k≠10) (h15:(nd ns i).k≠15) (h11:(nd ns i).k≠11) (h12:(nd ns i).k≠12) (h13:(nd ns i).k≠13) (h14:(nd ns i).k≠14):checkS ns root i=0:=by simp [checkS,h2,h3,h4,h5,h22,h23,h8,h17,h24,h9,h16,h7,h25,h26,h27,h10,h15,h11,h12,h13,h14]
end Go.Ru
namespace Go.Ru
theorem stB_iff {k:Int}:stB k=true↔7≤k∧k≤17:=by simp [stB]
theorem exB_iff {k:Int}:exB k=true↔20≤k∧k≤27:=by simp [exB]
structure GN where
 k:Int
 pl:Int
 pr:Int
 nx:List Int
 ra:Int
instance:Inhabited GN:=⟨⟨0,0,0,[],0⟩⟩
def riseB (n:Nd):Bool:=n.k==8 || n.k==17 || n.k==13 || n.k==15 || n.k==23 || (n.k==27&&(n.tx==[47] || n.tx==[37]))
def raisesN (ns:List Nd):Nat→Nat→Bool
 | 0,_=>false
 | m+1,i=>riseB (nd ns i) || (nd ns i).kids.any fun q=>exB (nd ns q.toNat).k&&raisesN ns m q.toNat
def raisesF (ns:List Nd) (i:Nat):Bool:=raisesN ns (i+1) i
def raisesT (ns:List Nd) (root i:Int):Bool :=
 (checkTree ns root).2==0&&(decide (0≤i)&&decide (i<ns.length))&&((stB (nd ns i.toNat).k || exB (nd ns i.toNat).k)&&raisesF ns i.toNat)
def atO (of:Int→Option Nat) (p:Nat):Nat:=match of (p:Int) with
 | some j=>j
 | none=>0
def setG (f:Nat→GN) (j:Nat) (nx:List Int) (ra:Int) (i:Nat):GN:=if i=j then ⟨(f j).k,(f j).pl,(f j).pr,nx,ra⟩ else f i
def flRow (st:Nat→Int→Int→(Nat→GN)→Int×(Nat→GN)) (h:Int):List Int→Int→(Nat→GN)→Int×(Nat→GN)
 | [],fo,G=>(fo,G)
 | q::r,fo,G=>match st q.toNat fo h G with
  | (b,G')=>flRow st h r b G'
section
variable (ns:List Nd) (of:Int→Option Nat) (ex:Int)
def flStmt:Nat→Nat→Int→Int→(Nat→GN)→Int×(Nat→GN)
 | 0,_,fo,_,G=>(fo,G)
 | m+1,p,fo,h,G =>
  let a:=atO of p
  let ra:=if raisesF ns p then h else -1
  let ks:=(nd ns p).kids
  if (nd ns p).k=11 then
   match flRow (flStmt m) h (nd ns (ks.getD 1 0).toNat).kids.reverse fo G with
   | (b1,G1)=>match flRow (flStmt m) h (nd ns (ks.getD 2 0).toNat).kids.reverse fo G1 with
    | (b2,G2)=>((a:Int),setG G2 a [b1,b2] ra)
  else if (nd ns p).k=12 then
   match flRow (flStmt m) h (nd ns (ks.getD 1 0).toNat).kids.reverse (a:Int) G with
   | (b1,G1)=>((a:Int),setG G1 a [b1,fo] ra)
  else if (nd ns p).k=16 then
   match flRow (flStmt m) (a:Int) (nd ns (ks.getD 0 0).toNat).kids.reverse fo G with
   | (b1,G1)=>match flRow (flStmt m) h (nd ns (ks.getD 1 0).toNat).kids.reverse fo G1 with
    | (b2,G2)=>(b1,setG G2 a [b2] (-1))
  else if (nd ns p).k=14 then ((a:Int),setG G a [ex] ra)
  else if (nd ns p).k=15 then ((a:Int),setG G a [] ra)
  else ((a:Int),setG G a [fo] ra)
def flBlock (m p:Nat) (fo h:Int) (G:Nat→GN):Int×(Nat→GN):=flRow (flStmt ns of ex m) h (nd ns p).kids.reverse fo G
end
def addG (n:Nat) (f:Nat→GN) (x:GN) (i:Nat):GN:=if i=n then x else f i
def insO (of:Int→Option Nat) (p:Nat) (c:Nat) (q:Int):Option Nat:=if q=(p:Int) then some c else of q
structure SS where
 n:Nat
 f:Nat→GN
 of:Int→Option Nat
def stepsS (ns:List Nd) (num:Int):Nat→Nat→SS→SS
 | 0,_,s=>s
 | m+1,i,s=>stepsS ns num m (i+1) (match stB (nd ns i).k with
  | true=>⟨s.n+1,addG s.n s.f ⟨4,(i:Int),num,[],-1⟩,insO s.of i s.n⟩
  | false=>s)
structure BSt where
 n:Nat
 f:Nat→GN
 of:Int→Option Nat
 ps:List Int
 fst:Nat
def endsS (n:Nat) (f:Nat→GN) (p num:Int):Nat→GN:=addG (n+2) (addG (n+1) (addG n f ⟨1,p,num,[],-1⟩) ⟨2,p,num,[],-1⟩) ⟨3,p,num,[],-1⟩
def layS (ns:List Nd) (s:BSt) (q:Nat):BSt :=
 let s1:=stepsS ns (s.ps.length:Int) (q - s.fst) s.fst ⟨s.n+3,endsS s.n s.f (q:Int) (s.ps.length:Int),s.of⟩
 match flBlock ns s1.of ((s.n:Int)+1) 4000 ((nd ns q).kids.getD ((nd ns q).kids.length - 1) 0).toNat ((s.n:Int)+1) ((s.n:Int)+2) s1.f with
 | (b,G)=>⟨s1.n,setG G s.n [b] (G s.n).ra,s1.of,s.ps++[(q:Int)],q+1⟩
def buildR (ns:List Nd):List Int→BSt→BSt
 | [],s=>s
 | q::r,s=>match (nd ns q.toNat).k==3 with
  | true=>buildR ns r (layS ns s q.toNat)
  | false=>buildR ns r ⟨s.n,s.f,s.of,s.ps,q.toNat+1⟩
def bst0:BSt:=⟨0,fun _=>default,fun _=>none,[],0⟩
def buildS (ns:List Nd) (root:Int):BSt:=buildR ns (nd ns root.toNat).kids bst0
def endS (n:Nat) (p:Nat→Bool):Int:=match firstB p n with
 | some j=>(j:Int)
 | none=>-1
end Go.Ru
namespace Go.Ru
def Inn (ns:List Nd) (p j:Nat):Prop:=lowS ns p<(j:Int)∧j≤p∧stB (nd ns j).k=true
section
variable {ns:List Nd} {root:Int} (rt:RightT ns root)
include rt
theorem RightT.kidk {j:Nat} (hj:j<ns.length) {q:Int} (hq:q∈(nd ns j).kids) :
  let k:=(nd ns j).k
  let x:=(nd ns q.toNat).k
  (k=1∧(x=2∨x=3))∨(k=3∧(x=4∨x=5∨x=6))∨(k=6∧stB x=true)∨(7≤k∧k≤27∧exB x=true)∨((k=9∨k=10)∧x=18)∨((k=11∨k=12∨k=16)∧x=6)∨(k=13∧x=19) :=
 kid_kind (rt.shape j hj) (kinds_mem hq)
theorem RightT.noSt:∀ (j:Nat),j<ns.length→(nd ns j).k=2∨(nd ns j).k=4∨(nd ns j).k=5∨18≤(nd ns j).k→∀ x:Nat,lowS ns j<x→x≤j→stB (nd ns x).k=false:=by
 intro j
 induction j using Nat.strongRecOn with
 | _ j ih =>
  intro hj hk x h1 h2
  by_cases e:x=j
  ·subst e
   cases hs:stB (nd ns x).k with
   | false=>rfl
   | true=>have:=stB_iff.1 hs;omega
  ·obtain⟨q,hq,g0,g1,g2⟩:=rt.tile j hj (x:Int) h1 (by omega)
   obtain⟨q0,q1,_⟩:=rt.kid j hj q hq
   have:=rt.kidk hj hq
   simp only at this
   refine ih q.toNat (by omega) (by omega) ?_ x g1 (by omega)
   have hx:=@exB_iff (nd ns q.toNat).k
   rcases this with h|h|h|h|h|h|h
   ·omega
   ·omega
   ·omega
   ·have:=hx.1 h.2.2;omega
   ·omega
   ·omega
   ·omega
theorem RightT.inn {p j:Nat} (hp:p<ns.length):Inn ns p j↔(j=p∧stB (nd ns p).k=true)∨∃ q∈(nd ns p).kids,Inn ns q.toNat j:=by
 constructor
 ·rintro⟨h1,h2,h3⟩
  by_cases e:j=p
  ·subst e;exact .inl ⟨rfl,h3⟩
  ·obtain⟨q,hq,g0,g1,g2⟩:=rt.tile p hp (j:Int) h1 (by omega)
   exact .inr ⟨q,hq,g1,by omega,h3⟩
 ·rintro (⟨rfl,h⟩|⟨q,hq,h1,h2,h3⟩)
  ·exact⟨(rt.self j hp).2,Nat.le_refl _,h⟩
  ·obtain⟨q0,q1,q2⟩:=rt.kid p hp q hq
   exact⟨by omega,by omega,h3⟩
theorem RightT.noInn {p:Nat} (hp:p<ns.length) (hk:(nd ns p).k=2∨(nd ns p).k=4∨(nd ns p).k=5∨18≤(nd ns p).k) {j:Nat}:¬ Inn ns p j:=fun ⟨h1,h2,h3⟩=>by
 rw [rt.noSt p hp hk j h1 h2] at h3;cases h3
theorem RightT.innApart {p:Nat} (hp:p<ns.length) {q q':Int} (hq:q∈(nd ns p).kids) (hq':q'∈(nd ns p).kids) {j:Nat} (h:Inn ns q.toNat j) (h':Inn ns q'.toNat j):q=q':=by
 obtain⟨a1,a2,_⟩:=h
 obtain⟨b1,b2,_⟩:=h'
 obtain⟨q0,_,_⟩:=rt.kid p hp q hq
 obtain⟨q0',_,_⟩:=rt.kid p hp q' hq'
 rcases Int.lt_trichotomy q q' with h|h|h
 ·have:=rt.apart p hp q hq q' hq' h;omega
 ·exact h
 ·have:=rt.apart p hp q' hq' q hq h;omega
theorem RightT.innKid {p:Nat} (hp:p<ns.length) {q:Int} (hq:q∈(nd ns p).kids):¬ Inn ns q.toNat p:=fun ⟨_,h2,_⟩=>by
 obtain⟨q0,q1,_⟩:=rt.kid p hp q hq
 omega
theorem RightT.kids11 {p:Nat} (hp:p<ns.length) (hk:(nd ns p).k=11):∃ a b c,(nd ns p).kids=[a,b,c]∧exB (nd ns a.toNat).k=true∧(nd ns b.toNat).k=6∧(nd ns c.toNat).k=6:=by
 have h:=rt.shape p hp
 simp only [ShapeOf,hk] at h
 simp at h
 obtain⟨a,h,ha⟩:=h
 unfold kindsS at h
 match hl:(nd ns p).kids,h with
 | [x,y,z],h=>simp at h;exact⟨x,y,z,rfl,by rw [show (nd ns x.toNat).k=a from h.1];exact ha,h.2.1,h.2.2⟩
 | [],h=>simp at h
 | [_],h=>simp at h
 | [_,_],h=>simp at h
 | _::_::_::_::_,h=>simp at h
theorem RightT.kids12 {p:Nat} (hp:p<ns.length) (hk:(nd ns p).k=12):∃ a b,(nd ns p).kids=[a,b]∧exB (nd ns a.toNat).k=true∧(nd ns b.toNat).k=6:=by
 have h:=rt.shape p hp
 simp only [ShapeOf,hk] at h
 simp at h
 obtain⟨a,h,ha⟩:=h
 unfold kindsS at h
 match hl:(nd ns p).kids,h with
 | [x,y],h=>simp at h;exact⟨x,y,rfl,by rw [show (nd ns x.toNat).k=a from h.1];exact ha,h.2⟩
 | [],h=>simp at h
 | [_],h=>simp at h
 | _::_::_::_,h=>simp at h
theorem RightT.kids16 {p:Nat} (hp:p<ns.length) (hk:(nd ns p).k=16):∃ a b,(nd ns p).kids=[a,b]∧(nd ns a.toNat).k=6∧(nd ns b.toNat).k=6:=by
 have h:=rt.shape p hp
 simp only [ShapeOf,hk] at h
 simp at h
 unfold kindsS at h
 match hl:(nd ns p).kids,h with
 | [x,y],h=>simp at h;exact⟨x,y,rfl,h.1,h.2⟩
 | [],h=>simp at h
 | [_],h=>simp at h
 | _::_::_::_,h=>simp at h
theorem RightT.body {p:Nat} (hp:p<ns.length) (hk:(nd ns p).k=3):∃ l b,(nd ns p).kids=l++[b]∧(nd ns b.toNat).k=6∧∀ q∈l,(nd ns q.toNat).k=4∨(nd ns q.toNat).k=5:=by
 have h:=rt.shape p hp
 simp only [ShapeOf,hk] at h
 simp at h
 obtain⟨a,b,h,ha,hb⟩:=h
 have hne:(nd ns p).kids≠[]:=fun e=>by simp [kindsS,e] at h
 obtain⟨l,x,e⟩:∃ l x,(nd ns p).kids=l++[x]:=⟨_,_,(List.dropLast_concat_getLast hne).symm⟩
 have h:(l.map fun q=>(nd ns q.toNat).k)++[(nd ns x.toNat).k]=(a++b)++[6]:=by
  have:kindsS ns (nd ns p)=(l.map fun q=>(nd ns q.toNat).k)++[(nd ns x.toNat).k]:=by simp only [kindsS,e,List.map_append,List.map_cons,List.map_nil];rfl
  rw [← this,h,List.append_assoc]
 obtain⟨h1,h2⟩:=List.append_inj' h rfl
 refine⟨l,x,e,by simpa using h2,fun q hq=>?_⟩
 have:(nd ns q.toNat).k∈a++b:=by rw [← h1];exact List.mem_map.2 ⟨q,hq,rfl⟩
 rcases List.mem_append.1 this with h|h
 ·exact .inl (ha _ h)
 ·exact .inr (hb _ h)
end
def succG (g:GN) (y:Int):Prop:=y∈g.nx∨(g.ra≠-1∧y=g.ra)
structure LaidN (ns:List Nd) (T:Int→Prop) (i:Nat) (g g':GN):Prop where
 k:g'.k=g.k
 pl:g'.pl=g.pl
 pr:g'.pr=g.pr
 nx:∀ x∈g'.nx,T x
 ra:g'.ra=-1∨T g'.ra
 ra16:(nd ns i).k=16→g'.ra=-1
 rise:(nd ns i).k≠16→raisesF ns i=true→T g'.ra
 calm:raisesF ns i=false→g'.ra=-1
 two:g'.nx.length=2↔(nd ns i).k=11∨(nd ns i).k=12
 nil:g'.nx.length=0↔(nd ns i).k=15
 lt3:g'.nx.length<3
structure Laid (ns:List Nd) (at':Nat→Nat) (S:Nat→Prop) (fo h ex:Int) (G:Nat→GN) (r:Int×(Nat→GN)):Prop where
 frame:∀ x,(∀ j,S j→at' j≠x)→r.2 x=G x
 laid:∀ T:Int→Prop,T fo→T h→T ex→(∀ j,S j→T (at' j:Nat))→T r.1∧∀ j,S j→LaidN ns T j (G (at' j)) (r.2 (at' j))
 way:∀ (H:Nat→GN) (D:Int→Prop),D fo→D h→D ex→(∀ j,S j→H (at' j)=r.2 (at' j))→(∀ j,S j→(∃ y,succG (H (at' j)) y∧D y)→D (at' j:Nat))→D r.1∧∀ j,S j→D (at' j:Nat)
theorem Laid.nil {ns:List Nd} {at':Nat→Nat} {S:Nat→Prop} {fo h ex:Int} {G:Nat→GN} (hS:∀ j,¬ S j):Laid ns at' S fo h ex G (fo,G) :=
 ⟨fun _ _=>rfl,fun T h1 _ _ _=>⟨h1,fun j hj=>(hS j hj).elim⟩,fun H D h1 _ _ _ _=>⟨h1,fun j hj=>(hS j hj).elim⟩⟩
theorem Laid.iff {ns:List Nd} {at':Nat→Nat} {S S':Nat→Prop} {fo h ex:Int} {G:Nat→GN} {r:Int×(Nat→GN)} (hl:Laid ns at' S fo h ex G r) (e:∀ j,S j↔S' j):Laid ns at' S' fo h ex G r:=by
 have:S=S':=funext fun j=>propext (e j)
 exact this▸hl
theorem Laid.seq {ns:List Nd} {at':Nat→Nat} {S S':Nat→Prop} {fo h ex:Int} {G:Nat→GN} {r r':Int×(Nat→GN)} (hl:Laid ns at' S fo h ex G r) (hl':Laid ns at' S' r.1 h ex r.2 r')
  (hd:∀ j j',S j→S' j'→at' j≠at' j'):Laid ns at' (fun j=>S j∨S' j) fo h ex G r':=by
 refine⟨fun x hx=>?_,fun T h1 h2 h3 h4=>?_,fun H D h1 h2 h3 h4 h5=>?_⟩
 ·rw [hl'.frame x fun j hj=>hx j (.inr hj),hl.frame x fun j hj=>hx j (.inl hj)]
 ·obtain⟨a1,a2⟩:=hl.laid T h1 h2 h3 fun j hj=>h4 j (.inl hj)
  obtain⟨b1,b2⟩:=hl'.laid T a1 h2 h3 fun j hj=>h4 j (.inr hj)
  refine⟨b1,fun j hj=>?_⟩
  rcases hj with hj|hj
  ·rw [hl'.frame (at' j) fun j' hj' e=>hd j j' hj hj' e.symm]
   exact a2 j hj
  ·rw [← hl.frame (at' j) fun j' hj' e=>hd j' j hj' hj e]
   exact b2 j hj
 ·obtain⟨a1,a2⟩:=hl.way H D h1 h2 h3 (fun j hj=>by rw [h4 j (.inl hj),hl'.frame (at' j) fun j' hj' e=>hd j j' hj hj' e.symm]) fun j hj=>h5 j (.inl hj)
  obtain⟨b1,b2⟩:=hl'.way H D a1 h2 h3 (fun j hj=>h4 j (.inr hj)) fun j hj=>h5 j (.inr hj)
  exact⟨b1,fun j hj=>hj.elim (a2 j) (b2 j)⟩
theorem Laid.node {ns:List Nd} {at':Nat→Nat} {p:Nat} {S1 S2:Nat→Prop} {fo h ex fo1 h1 fo2 h2:Int} {G:Nat→GN} {r1 r2:Int×(Nat→GN)} {nx:List Int} {ra b:Int}
  (L1:Laid ns at' S1 fo1 h1 ex G r1) (L2:Laid ns at' S2 fo2 h2 ex r1.2 r2)
  (d12:∀ j j',S1 j→S2 j'→at' j≠at' j') (d1:∀ j,S1 j→at' j≠at' p) (d2:∀ j,S2 j→at' j≠at' p)
  (hT:∀ T:Int→Prop,T fo→T h→T ex→T (at' p:Nat)→(T fo1∧T h1∧T fo2∧T h2)∧(T r1.1→T r2.1→T b∧∀ x∈nx,T x))
  (hra:(ra=-1∨ra=h)∧((nd ns p).k=16→ra=-1)∧((nd ns p).k≠16→raisesF ns p=true→ra=h)∧(raisesF ns p=false→ra=-1))
  (hn:(nx.length=2↔(nd ns p).k=11∨(nd ns p).k=12)∧(nx.length=0↔(nd ns p).k=15)∧nx.length<3)
  (hD:∀ D:Int→Prop,D fo→D h→D ex→(D fo1→D h1→D r1.1)→(D fo2→D h2→D r2.1)→((∃ y,(y∈nx∨(ra≠-1∧y=ra))∧D y)→D (at' p:Nat))→D (at' p:Nat)∧D b∧D fo1∧D h1∧D fo2∧D h2) :
  Laid ns at' (fun j=>j=p∨S1 j∨S2 j) fo h ex G (b,setG r2.2 (at' p) nx ra):=by
 have hset:∀ x,x≠at' p→setG r2.2 (at' p) nx ra x=r2.2 x:=fun x hx=>by simp only [setG,if_neg hx]
 have hGp:r2.2 (at' p)=G (at' p):=by
  rw [L2.frame (at' p) fun j hj=>d2 j hj,L1.frame (at' p) fun j hj=>d1 j hj]
 refine⟨fun x hx=>?_,fun T t1 t2 t3 t4=>?_,fun H D t1 t2 t3 t4 t5=>?_⟩
 ·simp only
  rw [hset x fun e=>hx p (.inl rfl) e.symm,L2.frame x fun j hj=>hx j (.inr (.inr hj)),L1.frame x fun j hj=>hx j (.inr (.inl hj))]
 ·obtain⟨⟨c1,c2,c3,c4⟩,c5⟩:=hT T t1 t2 t3 (t4 p (.inl rfl))
  obtain⟨a1,a2⟩:=L1.laid T c1 c2 t3 fun j hj=>t4 j (.inr (.inl hj))
  obtain⟨b1,b2⟩:=L2.laid T c3 c4 t3 fun j hj=>t4 j (.inr (.inr hj))
  obtain⟨c6,c7⟩:=c5 a1 b1
  refine⟨c6,fun j hj=>?_⟩
  rcases hj with rfl|hj|hj
  ·have e:setG r2.2 (at' j) nx ra (at' j)=⟨(G (at' j)).k,(G (at' j)).pl,(G (at' j)).pr,nx,ra⟩:=by simp only [setG,if_pos,hGp]
   simp only
   rw [e]
   refine⟨rfl,rfl,rfl,c7,?_,hra.2.1,fun g1 g2=>?_,hra.2.2.2,hn.1,hn.2.1,hn.2.2⟩
   ·rcases hra.1 with e|e
    ·exact .inl e
    ·exact .inr (by simp only;rw [e];exact t2)
   ·simp only
    rw [hra.2.2.1 g1 g2];exact t2
  ·simp only
   rw [hset _ (d1 j hj),L2.frame (at' j) fun j' hj' e=>d12 j j' hj hj' e.symm]
   exact a2 j hj
  ·simp only
   rw [hset _ (d2 j hj),← L1.frame (at' j) fun j' hj' e=>d12 j' j hj' hj e]
   exact b2 j hj
 ·simp only at t4
  have e1:∀ j,S1 j→H (at' j)=r1.2 (at' j):=fun j hj=>by
   rw [t4 j (.inr (.inl hj)),hset _ (d1 j hj),L2.frame (at' j) fun j' hj' e=>d12 j j' hj hj' e.symm]
  have e2:∀ j,S2 j→H (at' j)=r2.2 (at' j):=fun j hj=>by
   rw [t4 j (.inr (.inr hj)),hset _ (d2 j hj)]
  have w1:=L1.way H D
  have w2:=L2.way H D
  have hp:(∃ y,(y∈nx∨(ra≠-1∧y=ra))∧D y)→D (at' p:Nat):=fun ⟨y,hy,hd⟩=>t5 p (.inl rfl) ⟨y,by
   rw [t4 p (.inl rfl)]
   simpa only [succG,setG,if_pos] using hy,hd⟩
  obtain⟨g1,g2,g3,g4,g5,g6⟩:=hD D t1 t2 t3 (fun a b=>(w1 a b t3 e1 fun j hj=>t5 j (.inr (.inl hj))).1) (fun a b=>(w2 a b t3 e2 fun j hj=>t5 j (.inr (.inr hj))).1) hp
  have v1:=w1 g3 g4 t3 e1 fun j hj=>t5 j (.inr (.inl hj))
  have v2:=w2 g5 g6 t3 e2 fun j hj=>t5 j (.inr (.inr hj))
  refine⟨g2,fun j hj=>?_⟩
  rcases hj with rfl|hj|hj
  ·exact g1
  ·exact v1.2 j hj
  ·exact v2.2 j hj
theorem kidsS_pair {out:List Nat} (ho:szOk out):∀ (l:List Int) (last:Int) (size:Nat) (c:Nat),last<out.length→kidsS out l last size=some c→l.Pairwise (fun a c=>c<a):=by
 intro l
 induction l with
 | nil=>intro _ _ _ _ _;exact List.Pairwise.nil
 | cons k r ih =>
  intro last size c h1 h
  simp only [kidsS] at h
  split at h
  case h_2=>simp at h
  rename_i hb
  simp only [Bool.and_eq_true,beq_iff_eq,decide_eq_true_eq] at hb
  obtain⟨rfl,hk⟩:=hb
  have:=ho k.toNat (by omega)
  refine List.pairwise_cons.2 ⟨fun x hx=>?_,ih _ _ c (by omega) h⟩
  have:=kidsS_mem ho r _ _ c (by omega) h x hx
  omega
theorem rev_pair {ns:List Nd} {root:Int} (h:soundS ns root=true) {j:Nat} (hj:j<ns.length):(nd ns j).kids.reverse.Pairwise (fun a c=>c<a):=by
 simp only [soundS,Bool.and_eq_true] at h
 obtain⟨_,h4⟩:=h
 split at h4
 case h_2=>simp at h4
 rename_i l hl
 obtain⟨hlen,hok,_⟩:=sizesS_inv ns [] l (fun i hi=>by simp at hi) hl
 obtain⟨_,he⟩:=sizesS_each ns [] l hl
 simp only [List.length_nil,Nat.zero_add] at hlen he
 have hlt:(l.take j).length=j:=by rw [List.length_take];omega
 refine kidsS_pair (out:=l.take j) (fun i hi=>?_) _ _ _ _ (by rw [hlt];omega) (he j hj)
 rw [hlt] at hi
 have:=hok i (by omega)
 rw [List.getD_eq_getElem?_getD,List.getElem?_take,if_pos hi,← List.getD_eq_getElem?_getD]
 exact this
section
variable {ns:List Nd} {root:Int} (rt:RightT ns root) {of:Int→Option Nat} {ex:Int}
include rt
theorem row_laid {m:Nat} (hst:∀ (p:Nat) (fo h:Int) (G:Nat→GN),0≤h→p<m→p<ns.length→stB (nd ns p).k=true→(∀ j j',Inn ns p j→Inn ns p j'→atO of j=atO of j'→j=j')→Laid ns (atO of) (Inn ns p) fo h ex G (flStmt ns of ex m p fo h G))
  {b:Nat} (hb:b<ns.length) (hbm:b≤m) (hk:(nd ns b).k=6) (hof:∀ j j',Inn ns b j→Inn ns b j'→atO of j=atO of j'→j=j') (h:Int) (h0:0≤h) :
  ∀ (l:List Int),(∀ q∈l,q∈(nd ns b).kids)→l.Pairwise (fun a c=>c<a)→∀ (fo:Int) (G:Nat→GN),Laid ns (atO of) (fun j=>∃ q∈l,Inn ns q.toNat j) fo h ex G (flRow (flStmt ns of ex m) h l fo G):=by
 intro l
 induction l with
 | nil=>intro _ _ fo G;exact Laid.nil fun j hj=>by obtain⟨q,hq,_⟩:=hj;simp at hq
 | cons q l ih =>
  intro hl hp fo G
  have hq:=hl q (by simp)
  obtain⟨q0,q1,_⟩:=rt.kid b hb q hq
  have hin:∀ j,Inn ns q.toNat j→Inn ns b j:=fun j hj=>(rt.inn hb).2 (.inr ⟨q,hq,hj⟩)
  have hkq:stB (nd ns q.toNat).k=true:=by
   have:=rt.kidk hb hq
   simp only at this
   rcases this with h|h|h|h|h|h|h<;>first|exact h.2|omega
  have h1:=hst q.toNat fo h G h0 (by omega) (by omega) hkq fun j j' hj hj'=>hof j j' (hin j hj) (hin j' hj')
  obtain⟨hp1,hp2⟩:=List.pairwise_cons.1 hp
  have h2:=ih (fun x hx=>hl x (by simp [hx])) hp2 (flStmt ns of ex m q.toNat fo h G).1 (flStmt ns of ex m q.toNat fo h G).2
  refine Laid.iff (h1.seq h2 fun j j' hj ⟨q',hq',hj'⟩ e=>?_) fun j=>?_
  ·have:=hof j j' (hin j hj) ((rt.inn hb).2 (.inr ⟨q',hl q' (by simp [hq']),hj'⟩)) e
   subst this
   have:=rt.innApart hb hq (hl q' (by simp [hq'])) hj hj'
   have:=hp1 q' hq'
   omega
  ·simp
theorem block_laid {m:Nat} (hst:∀ (p:Nat) (fo h:Int) (G:Nat→GN),0≤h→p<m→p<ns.length→stB (nd ns p).k=true→(∀ j j',Inn ns p j→Inn ns p j'→atO of j=atO of j'→j=j')→Laid ns (atO of) (Inn ns p) fo h ex G (flStmt ns of ex m p fo h G))
  {b:Nat} (hb:b<ns.length) (hbm:b≤m) (hk:(nd ns b).k=6) (hof:∀ j j',Inn ns b j→Inn ns b j'→atO of j=atO of j'→j=j') (h:Int) (h0:0≤h) (fo:Int) (G:Nat→GN) :
  Laid ns (atO of) (Inn ns b) fo h ex G (flBlock ns of ex m b fo h G):=by
 refine Laid.iff (row_laid rt hst hb hbm hk hof h h0 (nd ns b).kids.reverse (fun q hq=>by simpa using hq) (rev_pair (by have:=rt.ok;simp only [rightS,Bool.and_eq_true] at this;exact this.1.1.1) hb) fo G) fun j=>?_
 rw [rt.inn hb]
 constructor
 ·rintro⟨q,hq,hj⟩
  exact .inr ⟨q,by simpa using hq,hj⟩
 ·rintro (⟨rfl,h⟩|⟨q,hq,hj⟩)
  ·have:=stB_iff.1 h;omega
  ·exact⟨q,by simpa using hq,hj⟩
theorem stmt_laid:∀ (m p:Nat) (fo h:Int) (G:Nat→GN),0≤h→p<m→p<ns.length→stB (nd ns p).k=true→(∀ j j',Inn ns p j→Inn ns p j'→atO of j=atO of j'→j=j')→Laid ns (atO of) (Inn ns p) fo h ex G (flStmt ns of ex m p fo h G):=by
 intro m
 induction m with
 | zero=>intro p fo h G _ hp;omega
 | succ m ih =>
 intro p fo h G h0 hpm hp hst hof
 have hself:Inn ns p p:=(rt.inn hp).2 (.inl ⟨rfl,hst⟩)
 have hup:∀ q∈(nd ns p).kids,∀ j,Inn ns q.toNat j→Inn ns p j:=fun q hq j hj=>(rt.inn hp).2 (.inr ⟨q,hq,hj⟩)
 have hdp:∀ q∈(nd ns p).kids,∀ j,Inn ns q.toNat j→atO of j≠atO of p:=fun q hq j hj e=>by
  have:=hof j p (hup q hq j hj) hself e
  subst this
  exact rt.innKid hp hq hj
 have hblk:∀ q∈(nd ns p).kids,(nd ns q.toNat).k=6→∀ (fo h:Int) (G:Nat→GN),0≤h→Laid ns (atO of) (Inn ns q.toNat) fo h ex G (flRow (flStmt ns of ex m) h (nd ns q.toNat).kids.reverse fo G):=fun q hq hk fo h G h0=>by
  obtain⟨q0,q1,_⟩:=rt.kid p hp q hq
  exact block_laid rt ih (by omega) (by omega) hk (fun j j' hj hj'=>hof j j' (hup q hq j hj) (hup q hq j' hj')) h h0 fo G
 have hra:∀ {ra:Int},ra=(if raisesF ns p then h else -1)→(nd ns p).k≠16→(ra=-1∨ra=h)∧((nd ns p).k=16→ra=-1)∧((nd ns p).k≠16→raisesF ns p=true→ra=h)∧(raisesF ns p=false→ra=-1):=fun {ra} e hk=>by
  subst e
  cases hr:raisesF ns p<;>simp [hk]
 have hone:∀ {nx:List Int} {ra:Int},ra=(if raisesF ns p then h else -1)→(nd ns p).k≠11→(nd ns p).k≠12→(nd ns p).k≠16→(∀ x∈nx,x=fo∨x=ex)→((nx.length=0↔(nd ns p).k=15)∧nx.length<2)→((nx=[]→ra=h)) →
   Laid ns (atO of) (Inn ns p) fo h ex G ((atO of p:Nat),setG G (atO of p) nx ra):=fun {nx ra} e k11 k12 k16 hnx hn hr=>by
  have N:=Laid.node (p:=p) (h:=h) (fo:=fo) (b:=(atO of p:Nat)) (nx:=nx) (ra:=ra) (Laid.nil (ns:=ns) (at':=atO of) (S:=fun _=>False) (fo:=fo) (h:=h) (ex:=ex) (G:=G) fun _ h=>h)
   (Laid.nil (ns:=ns) (at':=atO of) (S:=fun _=>False) (fo:=fo) (h:=h) (ex:=ex) (G:=G) fun _ h=>h) (fun _ _ h=>h.elim) (fun _ h=>h.elim) (fun _ h=>h.elim)
   (fun T t1 t2 t3 t4=>⟨⟨t1,t2,t1,t2⟩,fun _ _=>⟨t4,fun x hx=>by rcases hnx x hx with rfl|rfl<;>assumption⟩⟩) (hra e k16) ⟨by simp [k11,k12];omega,hn.1,by omega⟩
   (fun D t1 t2 t3 _ _ t6=>by
    have:D (atO of p:Nat):=by
     cases nx with
     | nil=>exact t6 ⟨h,.inr ⟨by rw [hr rfl];omega,(hr rfl).symm⟩,t2⟩
     | cons x l=>exact t6 ⟨x,.inl (by simp),by rcases hnx x (by simp) with rfl|rfl<;>assumption⟩
    exact⟨this,this,t1,t2,t1,t2⟩)
  refine Laid.iff N fun j=>?_
  rw [rt.inn hp]
  constructor
  ·rintro (rfl|h|h)
   ·exact .inl ⟨rfl,hst⟩
   ·exact h.elim
   ·exact h.elim
  ·rintro (⟨rfl,_⟩|⟨q,hq,hj⟩)
   ·exact .inl rfl
   ·have hs:=stB_iff.1 hst
    obtain⟨q0,q1,_⟩:=rt.kid p hp q hq
    have hkd:=rt.kidk hp hq
    simp only at hkd
    refine (rt.noInn (p:=q.toNat) (by omega) ?_ hj).elim
    have hx:=@exB_iff (nd ns q.toNat).k
    rcases hkd with h|h|h|h|h|h|h
    ·omega
    ·omega
    ·omega
    ·have:=hx.1 h.2.2;omega
    ·omega
    ·omega
    ·omega
 simp only [flStmt]
 by_cases k11:(nd ns p).k=11
 ·rw [if_pos k11]
  obtain⟨a,b,c,hks,hka,hkb,hkc⟩:=rt.kids11 hp k11
  rw [hks]
  simp only [List.getD_cons_succ,List.getD_cons_zero]
  have L1:=hblk b (by rw [hks];simp) hkb fo h G h0
  have L2:=hblk c (by rw [hks];simp) hkc fo h (flRow (flStmt ns of ex m) h (nd ns b.toNat).kids.reverse fo G).2 h0
  have hbc:b≠c:=fun e=>by
   have:=rev_pair (by have:=rt.ok;simp only [rightS,Bool.and_eq_true] at this;exact this.1.1.1) hp
   rw [hks] at this
   simp at this
   omega
  have N:=Laid.node (p:=p) (fo:=fo) (h:=h) (b:=(atO of p:Nat)) (nx:=[(flRow (flStmt ns of ex m) h (nd ns b.toNat).kids.reverse fo G).1,(flRow (flStmt ns of ex m) h (nd ns c.toNat).kids.reverse fo (flRow (flStmt ns of ex m) h (nd ns b.toNat).kids.reverse fo G).2).1]) (ra:=if raisesF ns p then h else -1) L1 L2
   (fun j j' hj hj' e=>by
    have:=hof j j' (hup b (by rw [hks];simp) j hj) (hup c (by rw [hks];simp) j' hj') e
    subst this
    exact hbc (rt.innApart hp (by rw [hks];simp) (by rw [hks];simp) hj hj'))
   (hdp b (by rw [hks];simp)) (hdp c (by rw [hks];simp))
   (fun T t1 t2 t3 t4=>⟨⟨t1,t2,t1,t2⟩,fun a b=>⟨t4,fun x hx=>by
    simp only [List.mem_cons,List.not_mem_nil,or_false] at hx
    rcases hx with rfl|rfl<;>assumption⟩⟩)
   (hra rfl (by omega)) ⟨by simp [k11],by simp [k11],by simp⟩
   (fun D t1 t2 t3 t4 t5 t6=>by
    have:D (atO of p:Nat):=t6 ⟨_,.inl (List.mem_cons_self ..),t4 t1 t2⟩
    exact⟨this,this,t1,t2,t1,t2⟩)
  refine Laid.iff N fun j=>?_
  rw [rt.inn hp,hks]
  have hno:¬ Inn ns a.toNat j:=by
   obtain⟨q0,q1,_⟩:=rt.kid p hp a (by rw [hks];simp)
   exact rt.noInn (by omega) (by have:=exB_iff.1 hka;omega)
  simp [hno,hst]
 rw [if_neg k11]
 by_cases k12:(nd ns p).k=12
 ·rw [if_pos k12]
  obtain⟨a,b,hks,hka,hkb⟩:=rt.kids12 hp k12
  rw [hks]
  simp only [List.getD_cons_succ,List.getD_cons_zero]
  have L1:=hblk b (by rw [hks];simp) hkb (atO of p:Nat) h G h0
  have N:=Laid.node (p:=p) (fo:=fo) (h:=h) (b:=(atO of p:Nat)) (nx:=[(flRow (flStmt ns of ex m) h (nd ns b.toNat).kids.reverse (atO of p:Nat) G).1,fo]) (ra:=if raisesF ns p then h else -1) L1
   (Laid.nil (ns:=ns) (at':=atO of) (S:=fun _=>False) (fo:=fo) (h:=h) (ex:=ex) fun _ h=>h)
   (fun j j' hj hj'=>hj'.elim) (hdp b (by rw [hks];simp)) (fun _ h=>h.elim)
   (fun T t1 t2 t3 t4=>⟨⟨t4,t2,t1,t2⟩,fun a b=>⟨t4,fun x hx=>by
    simp only [List.mem_cons,List.not_mem_nil,or_false] at hx
    rcases hx with rfl|rfl<;>assumption⟩⟩)
   (hra rfl (by omega)) ⟨by simp [k12],by simp [k12],by simp⟩
   (fun D t1 t2 t3 t4 t5 t6=>by
    have:D (atO of p:Nat):=t6 ⟨fo,.inl (by simp),t1⟩
    exact⟨this,this,this,t2,t1,t2⟩)
  refine Laid.iff N fun j=>?_
  rw [rt.inn hp,hks]
  have hno:¬ Inn ns a.toNat j:=by
   obtain⟨q0,q1,_⟩:=rt.kid p hp a (by rw [hks];simp)
   exact rt.noInn (by omega) (by have:=exB_iff.1 hka;omega)
  simp [hno,hst]
 rw [if_neg k12]
 by_cases k16:(nd ns p).k=16
 ·rw [if_pos k16]
  obtain⟨b,c,hks,hkb,hkc⟩:=rt.kids16 hp k16
  rw [hks]
  simp only [List.getD_cons_succ,List.getD_cons_zero]
  have L1:=hblk b (by rw [hks];simp) hkb fo (atO of p:Nat) G (by omega)
  have L2:=hblk c (by rw [hks];simp) hkc fo h (flRow (flStmt ns of ex m) (atO of p:Nat) (nd ns b.toNat).kids.reverse fo G).2 h0
  have hbc:b≠c:=fun e=>by
   have:=rev_pair (by have:=rt.ok;simp only [rightS,Bool.and_eq_true] at this;exact this.1.1.1) hp
   rw [hks] at this
   simp at this
   omega
  have N:=Laid.node (p:=p) (fo:=fo) (h:=h) (b:=(flRow (flStmt ns of ex m) (atO of p:Nat) (nd ns b.toNat).kids.reverse fo G).1) (nx:=[(flRow (flStmt ns of ex m) h (nd ns c.toNat).kids.reverse fo (flRow (flStmt ns of ex m) (atO of p:Nat) (nd ns b.toNat).kids.reverse fo G).2).1]) (ra:=-1) L1 L2
   (fun j j' hj hj' e=>by
    have:=hof j j' (hup b (by rw [hks];simp) j hj) (hup c (by rw [hks];simp) j' hj') e
    subst this
    exact hbc (rt.innApart hp (by rw [hks];simp) (by rw [hks];simp) hj hj'))
   (hdp b (by rw [hks];simp)) (hdp c (by rw [hks];simp))
   (fun T t1 t2 t3 t4=>⟨⟨t1,t4,t1,t2⟩,fun a b=>⟨a,fun x hx=>by
    simp only [List.mem_cons,List.not_mem_nil,or_false] at hx
    rcases hx with rfl;exact b⟩⟩)
   ⟨.inl rfl,fun _=>rfl,fun h=>absurd k16 h,fun _=>rfl⟩ ⟨by simp [k16],by simp [k16],by simp⟩
   (fun D t1 t2 t3 t4 t5 t6=>by
    have:D (atO of p:Nat):=t6 ⟨_,.inl (List.mem_cons_self ..),t5 t1 t2⟩
    exact⟨this,t4 t1 this,t1,this,t1,t2⟩)
  refine Laid.iff N fun j=>?_
  rw [rt.inn hp,hks]
  simp [hst]
 rw [if_neg k16]
 by_cases k14:(nd ns p).k=14
 ·rw [if_pos k14]
  exact hone rfl k11 k12 k16 (fun x hx=>by simp at hx;exact .inr hx) ⟨by simp [k14],by simp⟩ (fun h=>by simp at h)
 rw [if_neg k14]
 by_cases k15:(nd ns p).k=15
 ·rw [if_pos k15]
  refine hone rfl k11 k12 k16 (fun x hx=>by simp at hx) ⟨by simp [k15],by simp⟩ fun _=>?_
  simp [raisesF,raisesN,riseB,k15]
 rw [if_neg k15]
 exact hone rfl k11 k12 k16 (fun x hx=>by simp at hx;exact .inl hx) ⟨by simp [k15],by simp⟩ (fun h=>by simp at h)
end
end Go.Ru
namespace Go.Ru
def cntB (p:Nat→Bool):Nat→Nat
 | 0=>0
 | n+1=>cntB p n+(match p n with|true=>1|false=>0)
def stP' (ns:List Nd) (i:Nat):Bool:=stB (nd ns i).k
structure Steps (ns:List Nd) (num:Int) (m i:Nat) (s s':SS):Prop where
 n:s'.n+cntB (stP' ns) i=s.n+cntB (stP' ns) (i+m)
 le:s.n≤s'.n
 old:∀ x,x<s.n→s'.f x=s.f x
 ofo:∀ j:Int,(j<(i:Int)∨((i+m:Nat):Int)≤j∨stB (nd ns j.toNat).k=false)→s'.of j=s.of j
 new:∀ j:Nat,i≤j→j<i+m→stB (nd ns j).k=true→∃ x,s'.of (j:Int)=some x∧s.n≤x∧x<s'.n∧s'.f x=⟨4,(j:Int),num,[],-1⟩
 back:∀ x,s.n≤x→x<s'.n→∃ j:Nat,i≤j∧j<i+m∧stB (nd ns j).k=true∧s'.of (j:Int)=some x
theorem steps_ok (ns:List Nd) (num:Int):∀ (m i:Nat) (s:SS),Steps ns num m i s (stepsS ns num m i s):=by
 intro m
 induction m with
 | zero=>intro i s;exact⟨rfl,Nat.le_refl _,fun _ _=>rfl,fun _ _=>rfl,fun j h1 h2=>by omega,fun x h1 h2=>by simp only [stepsS] at h2;omega⟩
 | succ m ih =>
  intro i s
  simp only [stepsS]
  cases hs:stB (nd ns i).k with
  | false =>
   have h:=ih (i+1) s
   have hc:cntB (stP' ns) (i+1)=cntB (stP' ns) i:=by simp [cntB,stP',hs]
   refine⟨?_,h.le,h.old,fun j hj=>h.ofo j ?_,fun j h1 h2 h3=>?_,fun x h1 h2=>?_⟩
   ·have:=h.n;rw [hc,show i+1+m=i+(m+1) by omega] at this;exact this
   ·rcases hj with hj|hj|hj
    ·exact .inl (by omega)
    ·exact .inr (.inl (by omega))
    ·exact .inr (.inr hj)
   ·by_cases e:j=i
    ·subst e;rw [hs] at h3;cases h3
    ·exact h.new j (by omega) (by omega) h3
   ·obtain⟨j,a,b,c,d⟩:=h.back x h1 h2
    exact⟨j,by omega,by omega,c,d⟩
  | true =>
   simp only
   have h:=ih (i+1) ⟨s.n+1,addG s.n s.f ⟨4,(i:Int),num,[],-1⟩,insO s.of i s.n⟩
   have hc:cntB (stP' ns) (i+1)=cntB (stP' ns) i+1:=by simp [cntB,stP',hs]
   have hle:=h.le
   simp only at hle
   refine⟨?_,by omega,fun x hx=>?_,fun j hj=>?_,fun j h1 h2 h3=>?_,fun x h1 h2=>?_⟩
   ·have:=h.n;simp only at this;rw [hc,show i+1+m=i+(m+1) by omega] at this;omega
   ·rw [h.old x (by simp only;omega)]
    simp only [addG,if_neg (show x≠s.n by omega)]
   ·rw [h.ofo j (by
     rcases hj with hj|hj|hj
     ·exact .inl (by omega)
     ·exact .inr (.inl (by omega))
     ·exact .inr (.inr hj))]
    have:j≠(i:Int):=fun e=>by
     rcases hj with hj|hj|hj
     ·omega
     ·omega
     ·subst e;rw [Int.toNat_natCast,hs] at hj;cases hj
    simp only [insO,if_neg this]
   ·by_cases e:j=i
    ·subst e
     refine⟨s.n,?_,Nat.le_refl _,by omega,?_⟩
     ·rw [h.ofo (j:Int) (.inl (by omega))];simp [insO]
     ·rw [h.old s.n (by simp only;omega)];simp [addG]
    ·obtain⟨x,a,b,c,d⟩:=h.new j (by omega) (by omega) h3
     exact⟨x,a,by simp only at b;omega,c,d⟩
   ·by_cases e:x=s.n
    ·subst e
     refine⟨i,Nat.le_refl _,by omega,hs,?_⟩
     rw [h.ofo (i:Int) (.inl (by omega))];simp [insO]
    ·obtain⟨j,a,b,c,d⟩:=h.back x (by simp only;omega) h2
     exact⟨j,by omega,by omega,c,d⟩
theorem steps_inj {ns:List Nd} {num:Int} {m i:Nat} {s s':SS} (h:Steps ns num m i s s') {j j' x:Nat} (h1:i≤j) (h2:j<i+m) (h3:stB (nd ns j).k=true) (h1':i≤j') (h2':j'<i+m) (h3':stB (nd ns j').k=true)
  (e:s'.of (j:Int)=some x) (e':s'.of (j':Int)=some x):j=j':=by
 obtain⟨y,a,b,c,d⟩:=h.new j h1 h2 h3
 obtain⟨y',a',b',c',d'⟩:=h.new j' h1' h2' h3'
 rw [e] at a;rw [e'] at a'
 injection a with a
 injection a' with a'
 subst a a'
 rw [d] at d'
 have:(j:Int)=(j':Int):=congrArg GN.pl d'
 omega
section
variable {ns:List Nd} {root:Int} (rt:RightT ns root)
include rt
theorem RightT.ownSub:∀ (j:Nat),j<ns.length→(nd ns j).k≠1→∀ x:Nat,lowS ns j<x→x≤j→own ns root x=own ns root j:=by
 intro j
 induction j using Nat.strongRecOn with
 | _ j ih =>
  intro hj hk x h1 h2
  by_cases e:x=j
  ·rw [e]
  ·obtain⟨q,hq,g0,g1,g2⟩:=rt.tile j hj (x:Int) h1 (by omega)
   obtain⟨q0,q1,_⟩:=rt.kid j hj q hq
   have hkd:=rt.kidk hj hq
   simp only at hkd
   have hx:=@exB_iff (nd ns q.toNat).k
   have hy:=@stB_iff (nd ns q.toNat).k
   have hne:(nd ns q.toNat).k≠1∧(nd ns q.toNat).k≠3:=by
    rcases hkd with h|h|h|h|h|h|h
    ·omega
    ·omega
    ·have:=hy.1 h.2;omega
    ·have:=hx.1 h.2.2;omega
    ·omega
    ·omega
    ·omega
   rw [ih q.toNat (by omega) (by omega) hne.1 x g1 (by omega),own_kid rt.toStd hj hq hne.2]
theorem RightT.ownProc {j:Nat} (hj:j<ns.length) (hk:(nd ns j).k=3):own ns root j=(j:Int):=by
 rw [own_eq rt.toStd hj,if_pos hk]
end
def ToN (s:BSt) (c:Nat) (y:Int):Prop:=0≤y∧y<(s.n:Int)∧(s.f y.toNat).pr=(c:Int)∧(s.f y.toNat).k≠1
structure BInv (ns:List Nd) (root:Int) (s:BSt) (e:Nat→Nat):Prop where
 fst:(s.fst:Int)≤root
 pr:∀ c,c<s.ps.length→∃ q:Nat,s.ps[c]?=some (q:Int)∧q<s.fst∧(nd ns q).k=3∧e c+3≤s.n ∧
  (∃ b,s.f (e c)=⟨1,(q:Int),(c:Int),[b],-1⟩∧ToN s c b)∧s.f (e c+1)=⟨2,(q:Int),(c:Int),[],-1⟩∧s.f (e c+2)=⟨3,(q:Int),(c:Int),[],-1⟩
 st:∀ i,i<s.fst→stB (nd ns i).k=true→∃ x c,s.of (i:Int)=some x∧x<s.n∧c<s.ps.length∧s.ps[c]?=some (own ns root i)∧LaidN ns (ToN s c) i ⟨4,(i:Int),(c:Int),[],-1⟩ (s.f x)
 back:∀ x,x<s.n→(∃ c,c<s.ps.length∧(x=e c∨x=e c+1∨x=e c+2))∨∃ i,i<s.fst∧stB (nd ns i).k=true∧s.of (i:Int)=some x
 num:s.n=3*s.ps.length+cntB (stP' ns) s.fst
 way:∀ D:Int→Prop,(∀ c,c<s.ps.length→D ((e c+1:Nat):Int)∧D ((e c+2:Nat):Int))→(∀ x,x<s.n→(∃ y,succG (s.f x) y∧D y)→D (x:Int))→∀ x,x<s.n→D (x:Int)
 dom:∀ j x,s.of j=some x→x<s.n
theorem ToN.keep {s s':BSt} {c:Nat} {y:Int} (h:ToN s c y) (hn:s.n≤s'.n) (hf:∀ x,x<s.n→s'.f x=s.f x):ToN s' c y:=by
 obtain⟨h1,h2,h3,h4⟩:=h
 refine⟨h1,by omega,?_,?_⟩
 ·rw [hf y.toNat (by omega)];exact h3
 ·rw [hf y.toNat (by omega)];exact h4
theorem LaidN.mono {ns:List Nd} {T T':Int→Prop} {i:Nat} {g g':GN} (h:LaidN ns T i g g') (hT:∀ y,T y→T' y):LaidN ns T' i g g' :=
 ⟨h.k,h.pl,h.pr,fun x hx=>hT x (h.nx x hx),h.ra.imp id (hT _),h.ra16,fun a b=>hT _ (h.rise a b),h.calm,h.two,h.nil,h.lt3⟩
theorem binv0 {ns:List Nd} {root:Int} (rt:RightT ns root):BInv ns root bst0 (fun _=>0):=by
 have:=rt.pos
 have:=rt.rt
 exact⟨by simp only [bst0];omega,fun c hc=>by simp [bst0] at hc,fun i hi=>by simp [bst0] at hi,fun x hx=>by simp [bst0] at hx,rfl,fun D _ _ x hx=>by simp [bst0] at hx,fun j x h=>by simp [bst0] at h⟩
theorem cntB_same {p:Nat→Bool} {i:Nat}:∀ (m:Nat),(∀ j,i≤j→j<i+m→p j=false)→cntB p (i+m)=cntB p i:=by
 intro m
 induction m with
 | zero=>intro _;rfl
 | succ m ih =>
  intro h
  have e:cntB p (i+(m+1))=cntB p (i+m)+(match p (i+m) with|true=>1|false=>0):=rfl
  rw [e,h (i+m) (by omega) (by omega),ih fun j h1 h2=>h j h1 (by omega)]
  rfl
theorem BInv.skip {ns:List Nd} {root:Int} {s:BSt} {e:Nat→Nat} (h:BInv ns root s e) {q:Nat} (hf:s.fst≤q) (hq:(q:Int)<root) (hno:∀ j,s.fst≤j→j≤q→stB (nd ns j).k=false):BInv ns root ⟨s.n,s.f,s.of,s.ps,q+1⟩ e:=by
 refine⟨by simp only;omega,fun c hc=>?_,fun i hi hs=>?_,fun x hx=>?_,?_,h.way,h.dom⟩
 ·obtain⟨q',a1,a2,a⟩:=h.pr c hc
  exact⟨q',a1,by simp only;omega,a⟩
 ·by_cases e:i<s.fst
  ·exact h.st i e hs
  ·rw [hno i (by omega) (by simp only at hi;omega)] at hs;cases hs
 ·rcases h.back x hx with h|⟨i,h1,h2⟩
  ·exact .inl h
  ·exact .inr ⟨i,by simp only;omega,h2⟩
 ·have:=cntB_same (p:=stP' ns) (i:=s.fst) (q+1 - s.fst) (fun j h1 h2=>hno j h1 (by omega))
  rw [show s.fst+(q+1 - s.fst)=q+1 by omega] at this
  simp only
  rw [this];exact h.num
theorem BInv.lay {ns:List Nd} {root:Int} (rt:RightT ns root) {s:BSt} {e:Nat→Nat} (h:BInv ns root s e) {q:Nat} (hf:s.fst≤q) (hq:(q:Int)<root) (hk:(nd ns q).k=3)
  (hin:∀ j:Nat,s.fst≤j→j≤q→lowS ns q<(j:Int)) (hout:(s.fst:Int)≤lowS ns q+1):∃ e',BInv ns root (layS ns s q) e':=by
 have hrt:=rt.rt
 have hlen:=rt.len
 have hql:q<ns.length:=by omega
 obtain⟨l,b,hkids,hkb,hpars⟩:=rt.body hql hk
 have hbm:b∈(nd ns q).kids:=by rw [hkids];simp
 obtain⟨b0,b1,b2⟩:=rt.kid q hql b hbm
 have hbody:(nd ns q).kids.getD ((nd ns q).kids.length - 1) 0=b:=by rw [hkids];simp
 have hstb:∀ j,s.fst≤j→j<q+1→stB (nd ns j).k=true→Inn ns b.toNat j:=fun j h1 h2 h3=>by
  have:Inn ns q j:=⟨hin j h1 (by omega),by omega,h3⟩
  rcases (rt.inn hql).1 this with ⟨rfl,h4⟩|⟨x,hx,hj⟩
  ·have:=stB_iff.1 h4;omega
  ·rw [hkids] at hx
   rcases List.mem_append.1 hx with hx|hx
   ·obtain⟨x0,x1,_⟩:=rt.kid q hql x (by rw [hkids];simp [hx])
    exact (rt.noInn (by omega) (by have:=hpars x hx;omega) hj).elim
   ·simp only [List.mem_cons,List.not_mem_nil,or_false] at hx;subst hx;exact hj
 have hbin:∀ j,Inn ns b.toNat j→s.fst≤j∧j<q∧stB (nd ns j).k=true:=fun j ⟨h1,h2,h3⟩=>⟨by omega,by omega,h3⟩
 obtain⟨s1,hs1⟩:∃ s1,stepsS ns (s.ps.length:Int) (q - s.fst) s.fst ⟨s.n+3,endsS s.n s.f (q:Int) (s.ps.length:Int),s.of⟩=s1:=⟨_,rfl⟩
 have S:=steps_ok ns (s.ps.length:Int) (q - s.fst) s.fst ⟨s.n+3,endsS s.n s.f (q:Int) (s.ps.length:Int),s.of⟩
 rw [hs1] at S
 have hfq:s.fst+(q - s.fst)=q:=by omega
 have hat:∀ j,Inn ns b.toNat j→s1.of (j:Int)=some (atO s1.of j)∧s.n+3≤atO s1.of j∧atO s1.of j<s1.n∧s1.f (atO s1.of j)=⟨4,(j:Int),(s.ps.length:Int),[],-1⟩:=fun j hj=>by
  obtain⟨h1,h2,h3⟩:=hbin j hj
  obtain⟨x,a1,a2,a3,a4⟩:=S.new j h1 (by omega) h3
  have:atO s1.of j=x:=by simp [atO,a1]
  rw [this];exact⟨a1,a2,a3,a4⟩
 have hinj:∀ j j',Inn ns b.toNat j→Inn ns b.toNat j'→atO s1.of j=atO s1.of j'→j=j':=fun j j' hj hj' he=>by
  obtain⟨h1,h2,h3⟩:=hbin j hj
  obtain⟨h1',h2',h3'⟩:=hbin j' hj'
  exact steps_inj S h1 (by omega) h3 h1' (by omega) h3' (hat j hj).1 (by rw [he];exact (hat j' hj').1)
 have L:=block_laid rt (of:=s1.of) (ex:=(s.n:Int)+1) (m:=4000) (stmt_laid rt 4000) (b:=b.toNat) (by omega) (by omega) hkb hinj ((s.n:Int)+2) (by omega) ((s.n:Int)+1) s1.f
 obtain⟨bg,G,hr⟩:∃ bg G,flBlock ns s1.of ((s.n:Int)+1) 4000 b.toNat ((s.n:Int)+1) ((s.n:Int)+2) s1.f=(bg,G):=⟨_,_,rfl⟩
 rw [hr] at L
 have hlay:layS ns s q=⟨s1.n,setG G s.n [bg] (G s.n).ra,s1.of,s.ps++[(q:Int)],q+1⟩:=by
  simp only [layS,hs1,hbody,hr]
 rw [hlay]
 have hle:=S.le
 simp only at hle
 have hGlow:∀ x,x<s.n+3→G x=endsS s.n s.f (q:Int) (s.ps.length:Int) x:=fun x hx=>by
  have:=L.frame x fun j hj e=>by have:=(hat j hj).2.1;omega
  simp only at this
  rw [this,S.old x (by simp only;omega)]
 have e0:G s.n=⟨1,(q:Int),(s.ps.length:Int),[],-1⟩:=by
  rw [hGlow _ (by omega)];simp [endsS,addG]
 have e1:G (s.n+1)=⟨2,(q:Int),(s.ps.length:Int),[],-1⟩:=by
  rw [hGlow _ (by omega)];simp [endsS,addG]
 have e2:G (s.n+2)=⟨3,(q:Int),(s.ps.length:Int),[],-1⟩:=by
  rw [hGlow _ (by omega)];simp [endsS,addG]
 have eO:∀ x,x<s.n→G x=s.f x:=fun x hx=>by
  rw [hGlow _ (by omega)]
  simp only [endsS,addG,if_neg (show x≠s.n+2 by omega),if_neg (show x≠s.n+1 by omega),if_neg (show x≠s.n by omega)]
 obtain⟨s',hs'⟩:∃ s':BSt,(⟨s1.n,setG G s.n [bg] (G s.n).ra,s1.of,s.ps++[(q:Int)],q+1⟩:BSt)=s':=⟨_,rfl⟩
 have f0:s'.f s.n=⟨1,(q:Int),(s.ps.length:Int),[bg],-1⟩:=by
  rw [← hs'];simp only [setG,if_pos,e0]
 have fN:∀ x,x≠s.n→s'.f x=G x:=fun x hx=>by rw [← hs'];simp only [setG,if_neg hx]
 have fO:∀ x,x<s.n→s'.f x=s.f x:=fun x hx=>by rw [fN x (by omega),eO x hx]
 have hn':s'.n=s1.n:=by rw [← hs']
 have hof':s'.of=s1.of:=by rw [← hs']
 have hps':s'.ps=s.ps++[(q:Int)]:=by rw [← hs']
 have hpl:s'.ps.length=s.ps.length+1:=by rw [hps'];simp
 have hfst':s'.fst=q+1:=by rw [← hs']
 have gets:∀ c,c<s.ps.length→s'.ps[c]?=s.ps[c]?:=fun c hc=>by rw [hps',List.getElem?_append_left hc]
 have getl:s'.ps[s.ps.length]?=some (q:Int):=by rw [hps'];simp
 have Lt:=L.laid (fun _=>True) trivial trivial trivial (fun _ _=>trivial)
 have hfat:∀ j,Inn ns b.toNat j→s'.f (atO s1.of j)=G (atO s1.of j):=fun j hj=>fN _ (by have:=(hat j hj).2.1;omega)
 have hTat:∀ j,Inn ns b.toNat j→ToN s' s.ps.length (atO s1.of j:Nat):=fun j hj=>by
  have h1:=Lt.2 j hj
  have h2:=hat j hj
  refine⟨by omega,by omega,?_,?_⟩
  ·rw [Int.toNat_natCast,hfat j hj]
   have:=h1.pr
   simp only at this
   rw [this,h2.2.2.2]
  ·rw [Int.toNat_natCast,hfat j hj]
   have:=h1.k
   simp only at this
   rw [this,h2.2.2.2]
   exact (by decide:(4:Int)≠1)
 have hT1:ToN s' s.ps.length ((s.n:Int)+1):=by
  refine⟨by omega,by omega,?_,?_⟩
  ·rw [show ((s.n:Int)+1).toNat=s.n+1 by omega,fN _ (by omega),e1]
  ·rw [show ((s.n:Int)+1).toNat=s.n+1 by omega,fN _ (by omega),e1];exact (by decide:(2:Int)≠1)
 have hT2:ToN s' s.ps.length ((s.n:Int)+2):=by
  refine⟨by omega,by omega,?_,?_⟩
  ·rw [show ((s.n:Int)+2).toNat=s.n+2 by omega,fN _ (by omega),e2]
  ·rw [show ((s.n:Int)+2).toNat=s.n+2 by omega,fN _ (by omega),e2];exact (by decide:(3:Int)≠1)
 have LT:=L.laid (ToN s' s.ps.length) hT1 hT2 hT1 hTat
 have hown:∀ j,Inn ns b.toNat j→own ns root j=(q:Int):=fun j hj=>by
  obtain⟨h1,h2,h3⟩:=hbin j hj
  rw [rt.ownSub q hql (by omega) j (hin j h1 (by omega)) (by omega),rt.ownProc hql hk]
 refine⟨fun c=>if c=s.ps.length then s.n else e c,?_⟩
 rw [hs']
 refine⟨by omega,fun c hc=>?_,fun i hi hs=>?_,fun x hx=>?_,?_,fun D h1 h2=>?_,fun j x hj=>?_⟩
 ·by_cases ec:c=s.ps.length
  ·subst ec
   refine⟨q,getl,by omega,hk,by simp only [if_pos];omega,⟨bg,by simp only [if_pos];exact f0,LT.1⟩,?_,?_⟩
   ·simp only [if_pos];rw [fN _ (by omega),e1]
   ·simp only [if_pos];rw [fN _ (by omega),e2]
  ·obtain⟨q',a1,a2,a3,a4,⟨b',a5,a6⟩,a7,a8⟩:=h.pr c (by omega)
   simp only [if_neg ec]
   refine⟨q',by rw [gets c (by omega)];exact a1,by omega,a3,by omega,⟨b',by rw [fO _ (by omega)];exact a5,a6.keep (by omega) fO⟩,?_,?_⟩
   ·rw [fO _ (by omega)];exact a7
   ·rw [fO _ (by omega)];exact a8
 ·by_cases ei:i<s.fst
  ·obtain⟨x,c,a1,a2,a3,a4,a5⟩:=h.st i ei hs
   refine⟨x,c,?_,by omega,by omega,by rw [gets c a3];exact a4,?_⟩
   ·rw [hof',S.ofo (i:Int) (.inl (by omega))];exact a1
   ·rw [fO x a2];exact a5.mono fun y hy=>hy.keep (by omega) fO
  ·have hj:=hstb i (by omega) (by omega) hs
   have h2:=hat i hj
   refine⟨atO s1.of i,s.ps.length,by rw [hof'];exact h2.1,by omega,by omega,by rw [getl,hown i hj],?_⟩
   rw [hfat i hj]
   have:=LT.2 i hj
   rw [h2.2.2.2] at this
   exact this
 ·by_cases ex:x<s.n
  ·rcases h.back x ex with ⟨c,hc,hx⟩|⟨i,h1,h2,h3⟩
   ·refine .inl ⟨c,by omega,?_⟩
    simp only [if_neg (show c≠s.ps.length by omega)]
    exact hx
   ·exact .inr ⟨i,by omega,h2,by rw [hof',S.ofo (i:Int) (.inl (by omega))];exact h3⟩
  ·by_cases e3:x<s.n+3
   ·exact .inl ⟨s.ps.length,by omega,by simp only [if_pos];omega⟩
   ·obtain⟨j,a1,a2,a3,a4⟩:=S.back x (by simp only;omega) (by omega)
    exact .inr ⟨j,by omega,a3,by rw [hof'];exact a4⟩
 ·have:=S.n
  rw [hfq] at this
  simp only at this
  have hc:cntB (stP' ns) (q+1)=cntB (stP' ns) q:=by
   have:stP' ns q=false:=by
    simp only [stP']
    rw [hk];rfl
   simp [cntB,this]
  rw [hn',hpl,hfst',hc]
  have:=h.num
  omega
 ·
  have hold:∀ x,x<s.n→D (x:Int):=h.way D (fun c hc=>by
    have:=h1 c (by omega)
    simpa only [if_neg (show c≠s.ps.length by omega)] using this) fun x hx hy=>h2 x (by omega) (by rw [fO x hx];exact hy)
  have hnew:=h1 s.ps.length (by omega)
  simp only [if_pos] at hnew
  have d1:D ((s.n:Int)+1):=hnew.1
  have d2:D ((s.n:Int)+2):=hnew.2
  obtain⟨w1,w2⟩:=L.way s'.f D d1 d2 d1 (fun j hj=>hfat j hj) fun j hj hy=>h2 _ (by have:=hat j hj;omega) hy
  intro x hx
  by_cases ex:x<s.n
  ·exact hold x ex
  ·by_cases x0:x=s.n
   ·subst x0
    exact h2 s.n hx ⟨bg,.inl (by rw [f0];simp),w1⟩
   by_cases x1:x=s.n+1
   ·subst x1;exact d1
   by_cases x2:x=s.n+2
   ·subst x2;exact d2
   obtain⟨j,a1,a2,a3,a4⟩:=S.back x (by simp only;omega) (by omega)
   have hj:=hstb j a1 (by omega) a3
   have:atO s1.of j=x:=by simp [atO,a4]
   rw [← this]
   exact w2 j hj
 ·rw [hof'] at hj
  by_cases ej:j<(s.fst:Int)∨((s.fst+(q - s.fst):Nat):Int)≤j∨stB (nd ns j.toNat).k=false
  ·rw [S.ofo j ej] at hj
   have:=h.dom j x hj
   omega
  ·simp only [not_or] at ej
   obtain⟨i,rfl⟩:∃ i:Nat,j=(i:Int):=⟨j.toNat,by omega⟩
   obtain⟨y,a1,a2,a3,_⟩:=S.new i (by omega) (by omega) (by simpa using ej.2.2)
   rw [hj] at a1
   injection a1 with a1
   omega
theorem lay_fst (ns:List Nd) (s:BSt) (q:Nat):(layS ns s q).fst=q+1:=by
 simp only [layS]
structure StepH (ns:List Nd) (root:Int) (s:BSt) (q:Nat):Prop where
 lo:s.fst≤q
 lt:(q:Int)<root
 hin:∀ j:Nat,s.fst≤j→j≤q→lowS ns q<(j:Int)
 hout:(s.fst:Int)≤lowS ns q+1
 k23:(nd ns q).k=2∨(nd ns q).k=3
theorem step_h {ns:List Nd} {root:Int} (rt:RightT ns root) {d l:List Int} {q:Int} (hd:(nd ns root.toNat).kids=d++q::l) {s:BSt} (h1:∀ k∈d,k<(s.fst:Int)) (h2:∀ k∈q::l,(s.fst:Int)≤lowS ns k.toNat+1) :
  StepH ns root s q.toNat∧0≤q∧∀ k∈l,((q.toNat+1:Nat):Int)≤lowS ns k.toNat+1:=by
 have hrt:=rt.rt
 have hpos:=rt.pos
 have hrl:root.toNat<ns.length:=by omega
 have hqm:q∈(nd ns root.toNat).kids:=by rw [hd];simp
 obtain⟨q0,q1,q2⟩:=rt.kid root.toNat hrl q hqm
 have hself:=rt.self q.toNat (by omega)
 have hlow2:=h2 q (by simp)
 have hrise:=rev_pair (by have:=rt.ok;simp only [rightS,Bool.and_eq_true] at this;exact this.1.1.1) hrl
 rw [List.pairwise_reverse,hd] at hrise
 have hlt:∀ k∈l,q<k:=by
  have:=(List.pairwise_append.1 hrise).2.1
  exact (List.pairwise_cons.1 this).1
 have hkd:=rt.kidk hrl hqm
 simp only [rt.top] at hkd
 refine⟨⟨by omega,by omega,fun j j1 j2=>?_,hlow2,by omega⟩,q0,fun k hk=>?_⟩
 ·by_cases ej:j=q.toNat
  ·subst ej;omega
  have hlow:=rt.low
  obtain⟨k,hk,g0,g1,g2⟩:=rt.tile root.toNat hrl (j:Int) (by rw [show root.toNat=ns.length - 1 by omega,hlow];omega) (by omega)
  have hk':=hk
  rw [hd] at hk'
  rcases List.mem_append.1 hk' with hk'|hk'
  ·have:=h1 k hk';omega
  ·rcases List.mem_cons.1 hk' with rfl|hk'
   ·exact g1
   ·have:=rt.apart root.toNat hrl q hqm k hk (hlt k hk')
    omega
 ·have:=rt.apart root.toNat hrl q hqm k (by rw [hd];simp [hk]) (hlt k hk)
  omega
def stepB (ns:List Nd) (s:BSt) (q:Nat):BSt:=match (nd ns q).k==3 with
 | true=>layS ns s q
 | false=>⟨s.n,s.f,s.of,s.ps,q+1⟩
theorem stepB_fst (ns:List Nd) (s:BSt) (q:Nat):(stepB ns s q).fst=q+1:=by
 unfold stepB
 split
 ·exact lay_fst ns s q
 ·rfl
theorem BInv.step {ns:List Nd} {root:Int} (rt:RightT ns root) {s:BSt} (h:∃ e,BInv ns root s e) {q:Nat} (hq:StepH ns root s q):∃ e,BInv ns root (stepB ns s q) e:=by
 obtain⟨e,h⟩:=h
 have hrt:=rt.rt
 unfold stepB
 split
 ·rename_i k3
  exact h.lay rt hq.lo hq.lt (by simpa using k3) hq.hin hq.hout
 ·rename_i k3
  have k3:(nd ns q).k≠3:=by simpa using k3
  have hk:=hq.k23
  have hlt:=hq.lt
  exact⟨e,h.skip hq.lo hq.lt fun j j1 j2=>rt.noSt q (by omega) (.inl (by omega)) j (hq.hin j j1 j2) j2⟩
structure BPre (ns:List Nd) (root:Int) (d l:List Int) (s:BSt):Prop where
 inv:∃ e,BInv ns root s e
 hd:(nd ns root.toNat).kids=d++l
 ahead:∀ k∈d,k<(s.fst:Int)
 left:∀ k∈l,(s.fst:Int)≤lowS ns k.toNat+1
theorem BPre.step {ns:List Nd} {root:Int} (rt:RightT ns root) {d l:List Int} {q:Int} {s:BSt} (h:BPre ns root d (q::l) s):BPre ns root (d++[q]) l (stepB ns s q.toNat):=by
 obtain⟨h1,h2,h3⟩:=step_h rt h.hd h.ahead h.left
 refine⟨BInv.step rt h.inv h1,by rw [h.hd];simp,fun k hk=>?_,fun k hk=>?_⟩
 ·rw [stepB_fst]
  rcases List.mem_append.1 hk with hk|hk
  ·have:=h.ahead k hk;have:=h1.lo;omega
  ·simp only [List.mem_cons,List.not_mem_nil,or_false] at hk;subst hk;omega
 ·rw [stepB_fst];exact h3 k hk
theorem buildR_cons (ns:List Nd) (q:Int) (l:List Int) (s:BSt):buildR ns (q::l) s=buildR ns l (stepB ns s q.toNat):=by
 simp only [buildR,stepB]
 cases (nd ns q.toNat).k==3<;>rfl
theorem build_go {ns:List Nd} {root:Int} (rt:RightT ns root):∀ (l d:List Int) (s:BSt),BPre ns root d l s→∃ e',BInv ns root (buildR ns l s) e'∧∀ j:Nat,(buildR ns l s).fst≤j→j<ns.length→stB (nd ns j).k=false:=by
 have hrt:=rt.rt
 have hpos:=rt.pos
 have hrl:root.toNat<ns.length:=by omega
 intro l
 induction l with
 | nil =>
  intro d s h
  obtain⟨e,hi⟩:=h.inv
  refine⟨e,hi,fun j hj hjl=>?_⟩
  by_cases ej:(j:Int)=root
  ·rw [show j=root.toNat by omega,rt.top];rfl
  ·have hlow:=rt.low
   obtain⟨q,hq,g0,g1,g2⟩:=rt.tile root.toNat hrl (j:Int) (by rw [show root.toNat=ns.length - 1 by omega,hlow];omega) (by omega)
   have:=h.ahead q (by have:=h.hd;rw [this] at hq;simpa using hq)
   simp only [buildR] at hj
   omega
 | cons q l ih =>
  intro d s h
  rw [buildR_cons]
  exact ih _ _ (h.step rt)
theorem bpre0 {ns:List Nd} {root:Int} (rt:RightT ns root):BPre ns root [] (nd ns root.toNat).kids bst0:=by
 refine⟨⟨_,binv0 rt⟩,rfl,fun k hk=>by simp at hk,fun k hk=>?_⟩
 have:=rt.rt
 have:=rt.pos
 obtain⟨q0,q1,_⟩:=rt.kid root.toNat (by omega) k hk
 have:=rt.self k.toNat (by omega)
 simp only [bst0]
 omega
theorem build_ok {ns:List Nd} {root:Int} (rt:RightT ns root):∃ e,BInv ns root (buildS ns root) e∧∀ j:Nat,(buildS ns root).fst≤j→j<ns.length→stB (nd ns j).k=false :=
 build_go rt _ [] bst0 (bpre0 rt)
end Go.Ru
namespace Go.Ru
section
variable (ns:List Nd) (at':Nat→Nat)
def begB:Nat→Nat→Int→Int
 | 0,_,fo=>fo
 | m+1,p,fo=>if (nd ns p).k=16 then (nd ns ((nd ns p).kids.getD 0 0).toNat).kids.foldr (fun q f=>begB m q.toNat f) fo else ((at' p:Nat):Int)
def rowG (m:Nat) (l:List Int) (fo:Int):Int:=l.foldr (fun q f=>begB ns at' m q.toNat f) fo
def LRow (P:Nat→Int→Int→Prop) (m:Nat) (l:List Int) (fo h:Int):Prop:=∀ a q c,l=a++q::c→P q.toNat (rowG ns at' m c fo) h
def kidsAt (p j:Nat):List Int:=(nd ns ((nd ns p).kids.getD j 0).toNat).kids
def nxR (ex:Int) (m p:Nat) (fo:Int):List Int :=
 if (nd ns p).k=11 then [rowG ns at' m (kidsAt ns p 1) fo,rowG ns at' m (kidsAt ns p 2) fo]
 else if (nd ns p).k=12 then [rowG ns at' m (kidsAt ns p 1) ((at' p:Nat):Int),fo]
 else if (nd ns p).k=16 then [rowG ns at' m (kidsAt ns p 1) fo]
 else if (nd ns p).k=14 then [ex] else if (nd ns p).k=15 then [] else [fo]
def raR (p:Nat) (h:Int):Int:=if (nd ns p).k=16 then -1 else if raisesF ns p then h else -1
def LaidF (F:Nat→GN) (ex:Int):Nat→Nat→Int→Int→Prop
 | 0,_,_,_=>True
 | m+1,p,fo,h=>(F (at' p)).ra=raR ns p h∧(F (at' p)).nx=nxR ns at' ex m p fo ∧
  ((nd ns p).k=11→LRow ns at' (LaidF F ex m) m (kidsAt ns p 1) fo h∧LRow ns at' (LaidF F ex m) m (kidsAt ns p 2) fo h) ∧
  ((nd ns p).k=12→LRow ns at' (LaidF F ex m) m (kidsAt ns p 1) ((at' p:Nat):Int) h) ∧
  ((nd ns p).k=16→LRow ns at' (LaidF F ex m) m (kidsAt ns p 0) fo ((at' p:Nat):Int)∧LRow ns at' (LaidF F ex m) m (kidsAt ns p 1) fo h)
end
section
variable {ns:List Nd} {root:Int} (rt:RightT ns root)
include rt
def HSt (ns:List Nd) (of:Int→Option Nat) (at':Nat→Nat) (ex:Int) (m:Nat):Prop:=∀ (p:Nat) (fo h:Int) (G:Nat→GN),0≤h→p<m→p<ns.length→stB (nd ns p).k=true →
 (∀ j,Inn ns p j→atO of j=at' j)→(∀ j j',Inn ns p j→Inn ns p j'→atO of j=atO of j'→j=j') →
 (flStmt ns of ex m p fo h G).1=begB ns at' m p fo∧∀ F:Nat→GN,(∀ j,Inn ns p j→F (at' j)=(flStmt ns of ex m p fo h G).2 (at' j))→LaidF ns at' F ex m p fo h
theorem row_lf {of:Int→Option Nat} {at':Nat→Nat} {ex:Int} {m:Nat} (hst:HSt ns of at' ex m) {b:Nat} (hb:b<ns.length) (hbm:b≤m) (hk:(nd ns b).k=6)
  (hat:∀ j,Inn ns b j→atO of j=at' j) (hof:∀ j j',Inn ns b j→Inn ns b j'→atO of j=atO of j'→j=j') (h:Int) (h0:0≤h) :
  ∀ (l:List Int),(∀ q∈l,q∈(nd ns b).kids)→l.Pairwise (fun a c=>c<a)→∀ (fo:Int) (G:Nat→GN),
   (flRow (flStmt ns of ex m) h l fo G).1=l.foldl (fun f q=>begB ns at' m q.toNat f) fo ∧
   ∀ F:Nat→GN,(∀ j,(∃ q∈l,Inn ns q.toNat j)→F (at' j)=(flRow (flStmt ns of ex m) h l fo G).2 (at' j))→∀ a q c,l=a++q::c→LaidF ns at' F ex m q.toNat (a.foldl (fun f q=>begB ns at' m q.toNat f) fo) h:=by
 intro l
 induction l with
 | nil=>intro _ _ fo G;exact⟨rfl,fun F _ a q c e=>by simp at e⟩
 | cons q l ih =>
  intro hl hp fo G
  have hq:=hl q (by simp)
  obtain⟨q0,q1,_⟩:=rt.kid b hb q hq
  have hin:∀ j,Inn ns q.toNat j→Inn ns b j:=fun j hj=>(rt.inn hb).2 (.inr ⟨q,hq,hj⟩)
  have hkq:stB (nd ns q.toNat).k=true:=by
   have:=rt.kidk hb hq
   simp only at this
   rcases this with h|h|h|h|h|h|h<;>first|exact h.2|omega
  obtain⟨e1,f1⟩:=hst q.toNat fo h G h0 (by omega) (by omega) hkq (fun j hj=>hat j (hin j hj)) fun j j' hj hj'=>hof j j' (hin j hj) (hin j' hj')
  obtain⟨hp1,hp2⟩:=List.pairwise_cons.1 hp
  obtain⟨b1,G1,hr⟩:∃ b1 G1,flStmt ns of ex m q.toNat fo h G=(b1,G1):=⟨_,_,rfl⟩
  rw [hr] at e1 f1
  simp only at e1 f1
  obtain⟨e2,f2⟩:=ih (fun x hx=>hl x (by simp [hx])) hp2 b1 G1
  have L2:=row_laid (of:=of) (ex:=ex) rt (stmt_laid rt m) hb hbm hk hof h h0 l (fun x hx=>hl x (by simp [hx])) hp2 b1 G1
  simp only [flRow,hr,List.foldl_cons]
  rw [← e1]
  refine⟨e2,fun F hF a q' c hs=>?_⟩
  cases a with
  | nil =>
   obtain⟨rfl,rfl⟩:q=q'∧l=c:=by simpa using hs
   refine f1 F fun j hj=>?_
   rw [hF j ⟨q,by simp,hj⟩]
   refine L2.frame (at' j) fun j' ⟨q2,hq2,hj'⟩ e=>?_
   rw [← hat j (hin j hj)] at e
   have:=hof j' j ((rt.inn hb).2 (.inr ⟨q2,hl q2 (by simp [hq2]),hj'⟩)) (hin j hj) e
   subst this
   have:=rt.innApart hb (hl q2 (by simp [hq2])) hq hj' hj
   have:=hp1 q2 hq2
   omega
  | cons x a =>
   obtain⟨rfl,rfl⟩:q=x∧l=a++q'::c:=by simpa using hs
   have:=f2 F (fun j ⟨q2,hq2,hj⟩=>hF j ⟨q2,by simp at hq2 ⊢;exact .inr hq2,hj⟩) a q' c rfl
   simp only [List.foldl_cons]
   rw [← e1];exact this
theorem block_lf {of:Int→Option Nat} {at':Nat→Nat} {ex:Int} {m:Nat} (hst:HSt ns of at' ex m) {b:Nat} (hb:b<ns.length) (hbm:b≤m) (hk:(nd ns b).k=6)
  (hat:∀ j,Inn ns b j→atO of j=at' j) (hof:∀ j j',Inn ns b j→Inn ns b j'→atO of j=atO of j'→j=j') (h:Int) (h0:0≤h) (fo:Int) (G:Nat→GN) :
  (flRow (flStmt ns of ex m) h (nd ns b).kids.reverse fo G).1=rowG ns at' m (nd ns b).kids fo ∧
   ∀ F:Nat→GN,(∀ j,Inn ns b j→F (at' j)=(flRow (flStmt ns of ex m) h (nd ns b).kids.reverse fo G).2 (at' j))→LRow ns at' (LaidF ns at' F ex m) m (nd ns b).kids fo h:=by
 obtain⟨e,f⟩:=row_lf rt hst hb hbm hk hat hof h h0 (nd ns b).kids.reverse (fun q hq=>by simpa using hq) (rev_pair (by have:=rt.ok;simp only [rightS,Bool.and_eq_true] at this;exact this.1.1.1) hb) fo G
 refine⟨by rw [e,List.foldl_reverse];rfl,fun F hF a q c hs=>?_⟩
 have:=f F (fun j ⟨q,hq,hj⟩=>hF j ((rt.inn hb).2 (.inr ⟨q,by simpa using hq,hj⟩))) c.reverse q a.reverse (by rw [hs];simp)
 rw [List.foldl_reverse] at this
 exact this
theorem stmt_lf {of:Int→Option Nat} {at':Nat→Nat} {ex:Int}:∀ m,HSt ns of at' ex m:=by
 intro m
 induction m with
 | zero=>intro p fo h G _ hp;omega
 | succ m ih =>
 intro p fo h G h0 hpm hp hst hat hof
 have hself:Inn ns p p:=(rt.inn hp).2 (.inl ⟨rfl,hst⟩)
 have hap:=hat p hself
 have hup:∀ q∈(nd ns p).kids,∀ j,Inn ns q.toNat j→Inn ns p j:=fun q hq j hj=>(rt.inn hp).2 (.inr ⟨q,hq,hj⟩)
 have hdp:∀ q∈(nd ns p).kids,∀ j,Inn ns q.toNat j→at' j≠at' p:=fun q hq j hj e=>by
  rw [← hat j (hup q hq j hj),← hap] at e
  have:=hof j p (hup q hq j hj) hself e
  subst this
  exact rt.innKid hp hq hj
 have hblk:∀ q∈(nd ns p).kids,(nd ns q.toNat).k=6→∀ (fo h:Int) (G:Nat→GN),0≤h→_:=fun q hq hk fo h G h0=>by
  obtain⟨q0,q1,_⟩:=rt.kid p hp q hq
  exact block_lf rt ih (b:=q.toNat) (by omega) (by omega) hk (fun j hj=>hat j (hup q hq j hj)) (fun j j' hj hj'=>hof j j' (hup q hq j hj) (hup q hq j' hj')) h h0 fo G
 have hfr:∀ q∈(nd ns p).kids,(nd ns q.toNat).k=6→∀ (fo h:Int) (G:Nat→GN),0≤h→∀ j,(∀ j',Inn ns q.toNat j'→at' j'≠at' j)→(flRow (flStmt ns of ex m) h (nd ns q.toNat).kids.reverse fo G).2 (at' j)=G (at' j):=fun q hq hk fo h G h0 j hj=>by
  obtain⟨q0,q1,_⟩:=rt.kid p hp q hq
  have L:=block_laid (of:=of) (ex:=ex) rt (stmt_laid rt m) (b:=q.toNat) (by omega) (by omega) hk (fun j j' hj hj'=>hof j j' (hup q hq j hj) (hup q hq j' hj')) h h0 fo G
  exact L.frame (at' j) fun j' hj' e=>hj j' hj' (by rw [← hat j' (hup q hq j' hj')];exact e)
 have hap2:∀ {q q':Int},q∈(nd ns p).kids→q'∈(nd ns p).kids→q≠q'→∀ j j',Inn ns q.toNat j→Inn ns q'.toNat j'→at' j'≠at' j:=fun {q q'} hq hq' hne j j' hj hj' e=>by
  rw [← hat j (hup q hq j hj),← hat j' (hup q' hq' j' hj')] at e
  have:=hof j' j (hup q' hq' j' hj') (hup q hq j hj) e
  subst this
  exact hne (rt.innApart hp hq hq' hj hj')
 simp only [flStmt,begB,LaidF,hap]
 by_cases k11:(nd ns p).k=11
 ·obtain⟨a,b,c,hks,hka,hkb,hkc⟩:=rt.kids11 hp k11
  have hbc:b≠c:=fun e=>by
   have:=rev_pair (by have:=rt.ok;simp only [rightS,Bool.and_eq_true] at this;exact this.1.1.1) hp
   rw [hks] at this
   simp at this
   omega
  have mb:b∈(nd ns p).kids:=by rw [hks];simp
  have mc:c∈(nd ns p).kids:=by rw [hks];simp
  have k1:kidsAt ns p 1=(nd ns b.toNat).kids:=by simp only [kidsAt];rw [hks];rfl
  have k2:kidsAt ns p 2=(nd ns c.toNat).kids:=by simp only [kidsAt];rw [hks];rfl
  rw [if_pos k11,if_neg (show ¬ (nd ns p).k=16 by omega),k1,k2,hks]
  simp only [List.getD_cons_succ,List.getD_cons_zero]
  obtain⟨b1,G1,r1⟩:∃ b1 G1,flRow (flStmt ns of ex m) h (nd ns b.toNat).kids.reverse fo G=(b1,G1):=⟨_,_,rfl⟩
  obtain⟨b2,G2,r2⟩:∃ b2 G2,flRow (flStmt ns of ex m) h (nd ns c.toNat).kids.reverse fo G1=(b2,G2):=⟨_,_,rfl⟩
  obtain⟨e1,f1⟩:=hblk b mb hkb fo h G h0
  obtain⟨e2,f2⟩:=hblk c mc hkc fo h G1 h0
  have g2:=hfr c mc hkc fo h G1 h0
  rw [r1] at e1 f1 ⊢
  simp only at e1 f1 ⊢
  rw [r2] at e2 f2 g2 ⊢
  simp only at e2 f2 g2 ⊢
  refine⟨by trivial,fun F hF=>?_⟩
  have hFp:=hF p hself
  simp only [setG,if_pos] at hFp
  have hFj:∀ j,Inn ns p j→at' j≠at' p→F (at' j)=G2 (at' j):=fun j hj hne=>by rw [hF j hj];simp only [setG,if_neg hne]
  refine⟨by rw [hFp];simp [raR,k11],by rw [hFp];simp only [nxR,if_pos k11,k1,k2];rw [← e1,← e2],fun _=>⟨f1 F fun j hj=>?_,f2 F fun j hj=>?_⟩,fun h=>by omega,fun h=>by omega⟩
  ·rw [hFj j (hup b mb j hj) (hdp b mb j hj)]
   exact g2 j fun j' hj'=>hap2 mb mc hbc j j' hj hj'
  ·exact hFj j (hup c mc j hj) (hdp c mc j hj)
 rw [if_neg k11]
 by_cases k12:(nd ns p).k=12
 ·obtain⟨a,b,hks,hka,hkb⟩:=rt.kids12 hp k12
  have mb:b∈(nd ns p).kids:=by rw [hks];simp
  have k1:kidsAt ns p 1=(nd ns b.toNat).kids:=by simp only [kidsAt];rw [hks];rfl
  rw [if_pos k12,if_neg (show ¬ (nd ns p).k=16 by omega),k1,hks]
  simp only [List.getD_cons_succ,List.getD_cons_zero]
  obtain⟨b1,G1,r1⟩:∃ b1 G1,flRow (flStmt ns of ex m) h (nd ns b.toNat).kids.reverse ((at' p:Nat):Int) G=(b1,G1):=⟨_,_,rfl⟩
  obtain⟨e1,f1⟩:=hblk b mb hkb ((at' p:Nat):Int) h G h0
  rw [r1] at e1 f1 ⊢
  simp only at e1 f1 ⊢
  refine⟨by trivial,fun F hF=>?_⟩
  have hFp:=hF p hself
  simp only [setG,if_pos] at hFp
  have hFj:∀ j,Inn ns p j→at' j≠at' p→F (at' j)=G1 (at' j):=fun j hj hne=>by rw [hF j hj];simp only [setG,if_neg hne]
  refine⟨by rw [hFp];simp [raR,k12],by rw [hFp];simp only [nxR,if_neg k11,if_pos k12,k1];rw [← e1],fun h=>by omega,fun _=>f1 F fun j hj=>hFj j (hup b mb j hj) (hdp b mb j hj),fun h=>by omega⟩
 rw [if_neg k12]
 by_cases k16:(nd ns p).k=16
 ·obtain⟨b,c,hks,hkb,hkc⟩:=rt.kids16 hp k16
  have hbc:b≠c:=fun e=>by
   have:=rev_pair (by have:=rt.ok;simp only [rightS,Bool.and_eq_true] at this;exact this.1.1.1) hp
   rw [hks] at this
   simp at this
   omega
  have mb:b∈(nd ns p).kids:=by rw [hks];simp
  have mc:c∈(nd ns p).kids:=by rw [hks];simp
  have k0:kidsAt ns p 0=(nd ns b.toNat).kids:=by simp only [kidsAt];rw [hks];rfl
  have k1:kidsAt ns p 1=(nd ns c.toNat).kids:=by simp only [kidsAt];rw [hks];rfl
  rw [if_pos k16,if_pos k16,k0,k1,hks]
  simp only [List.getD_cons_succ,List.getD_cons_zero]
  obtain⟨b1,G1,r1⟩:∃ b1 G1,flRow (flStmt ns of ex m) ((at' p:Nat):Int) (nd ns b.toNat).kids.reverse fo G=(b1,G1):=⟨_,_,rfl⟩
  obtain⟨b2,G2,r2⟩:∃ b2 G2,flRow (flStmt ns of ex m) h (nd ns c.toNat).kids.reverse fo G1=(b2,G2):=⟨_,_,rfl⟩
  obtain⟨e1,f1⟩:=hblk b mb hkb fo ((at' p:Nat):Int) G (by omega)
  obtain⟨e2,f2⟩:=hblk c mc hkc fo h G1 h0
  have g2:=hfr c mc hkc fo h G1 h0
  rw [r1] at e1 f1 ⊢
  simp only at e1 f1 ⊢
  rw [r2] at e2 f2 g2 ⊢
  simp only at e2 f2 g2 ⊢
  refine⟨e1,fun F hF=>?_⟩
  have hFp:=hF p hself
  simp only [setG,if_pos] at hFp
  have hFj:∀ j,Inn ns p j→at' j≠at' p→F (at' j)=G2 (at' j):=fun j hj hne=>by rw [hF j hj];simp only [setG,if_neg hne]
  refine⟨by rw [hFp];simp [raR,k16],by rw [hFp];simp only [nxR,if_neg k11,if_neg k12,if_pos k16,k1];rw [← e2],fun h=>by omega,fun h=>by omega,fun _=>⟨f1 F fun j hj=>?_,f2 F fun j hj=>?_⟩⟩
  ·rw [hFj j (hup b mb j hj) (hdp b mb j hj)]
   exact g2 j fun j' hj'=>hap2 mb mc hbc j j' hj hj'
  ·exact hFj j (hup c mc j hj) (hdp c mc j hj)
 rw [if_neg k16,if_neg k16]
 have fin:∀ (nx:List Int),nx=nxR ns at' ex m p fo→∀ F:Nat→GN,(∀ j,Inn ns p j→F (at' j)=setG G (at' p) nx (if raisesF ns p=true then h else -1) (at' j)) →
   (F (at' p)).ra=raR ns p h∧(F (at' p)).nx=nxR ns at' ex m p fo∧((nd ns p).k=11→LRow ns at' (LaidF ns at' F ex m) m (kidsAt ns p 1) fo h∧LRow ns at' (LaidF ns at' F ex m) m (kidsAt ns p 2) fo h) ∧
   ((nd ns p).k=12→LRow ns at' (LaidF ns at' F ex m) m (kidsAt ns p 1) ((at' p:Nat):Int) h)∧((nd ns p).k=16→LRow ns at' (LaidF ns at' F ex m) m (kidsAt ns p 0) fo ((at' p:Nat):Int)∧LRow ns at' (LaidF ns at' F ex m) m (kidsAt ns p 1) fo h):=fun nx hn F hF=>by
  have hFp:=hF p hself
  simp only [setG,if_pos] at hFp
  exact⟨by rw [hFp];simp [raR,k16],by rw [hFp];exact hn,fun h=>absurd h k11,fun h=>absurd h k12,fun h=>absurd h k16⟩
 by_cases k14:(nd ns p).k=14
 ·rw [if_pos k14]
  exact⟨rfl,fin [ex] (by simp only [nxR,if_neg k11,if_neg k12,if_neg k16,if_pos k14])⟩
 rw [if_neg k14]
 by_cases k15:(nd ns p).k=15
 ·rw [if_pos k15]
  exact⟨rfl,fin [] (by simp only [nxR,if_neg k11,if_neg k12,if_neg k16,if_neg k14,if_pos k15])⟩
 rw [if_neg k15]
 exact⟨rfl,fin [fo] (by simp only [nxR,if_neg k11,if_neg k12,if_neg k16,if_neg k14,if_neg k15])⟩
end
end Go.Ru
namespace Go.Ru
theorem endS_at {p:Nat→Bool} {n j:Nat} (h1:j<n) (h2:p j=true) (h3:∀ i,i<j→p i=false):endS n p=(j:Int):=by
 simp only [endS,firstB_eq h1 h2 h3]
theorem endS_no {p:Nat→Bool} {n:Nat} (h:∀ i,i<n→p i=false):endS n p=-1:=by
 unfold endS
 split
 ·rename_i j hj
  obtain⟨h1,h2,_⟩:=firstB_some hj
  rw [h j h1] at h2;cases h2
 ·rfl
theorem endS_one {p:Nat→Bool} {n j:Nat} (h1:j<n) (h2:p j=true) (h3:∀ i,i<n→p i=true→i=j):endS n p=(j:Int) :=
 endS_at h1 h2 fun i hi=>by
  cases hp:p i with
  | false=>rfl
  | true=>have:=h3 i (by omega) hp;omega
def kindP (f:Nat→GN) (kind proc:Int) (x:Nat):Bool:=(f x).k==kind&&(f x).pr==proc
def placeP (f:Nat→GN) (place:Int) (x:Nat):Bool:=(f x).k==4&&(f x).pl==place
def endT (s:BSt) (kind proc:Int):Int:=endS s.n (kindP s.f kind proc)
def ofT (s:BSt) (place:Int):Int:=endS s.n (placeP s.f place)
section
variable {ns:List Nd} {root:Int} {s:BSt} {e:Nat→Nat} (h:BInv ns root s e)
include h
theorem BInv.what {x:Nat} (hx:x<s.n):(∃ c,c<s.ps.length∧((x=e c∧(s.f x).k=1)∨(x=e c+1∧(s.f x).k=2)∨(x=e c+2∧(s.f x).k=3))∧(s.f x).pr=(c:Int)) ∨
  ∃ i c,i<s.fst∧stB (nd ns i).k=true∧s.of (i:Int)=some x∧c<s.ps.length∧s.ps[c]?=some (own ns root i)∧(s.f x).k=4∧(s.f x).pl=(i:Int)∧(s.f x).pr=(c:Int)∧LaidN ns (ToN s c) i ⟨4,(i:Int),(c:Int),[],-1⟩ (s.f x):=by
 rcases h.back x hx with ⟨c,hc,hx⟩|⟨i,h1,h2,h3⟩
 ·refine .inl ⟨c,hc,?_⟩
  obtain⟨q,a1,a2,a3,a4,⟨b,a5,a6⟩,a7,a8⟩:=h.pr c hc
  rcases hx with rfl|rfl|rfl
  ·rw [a5];exact⟨.inl ⟨rfl,rfl⟩,rfl⟩
  ·rw [a7];exact⟨.inr (.inl ⟨rfl,rfl⟩),rfl⟩
  ·rw [a8];exact⟨.inr (.inr ⟨rfl,rfl⟩),rfl⟩
 ·obtain⟨x',c,b1,b2,b3,b4,b5⟩:=h.st i h1 h2
  rw [h3] at b1
  injection b1 with b1
  subst b1
  exact .inr ⟨i,c,h1,h2,h3,b3,b4,b5.k,b5.pl,b5.pr,b5⟩
theorem BInv.end1 {c:Nat} (hc:c<s.ps.length):endT s 1 (c:Int)=(e c:Nat)∧endT s 2 (c:Int)=(e c+1:Nat)∧endT s 3 (c:Int)=(e c+2:Nat):=by
 obtain⟨q,a1,a2,a3,a4,⟨b,a5,a6⟩,a7,a8⟩:=h.pr c hc
 have key:∀ x,x<s.n→∀ kd,(kd=1∨kd=2∨kd=3)→kindP s.f kd (c:Int) x=true→(kd=1∧x=e c)∨(kd=2∧x=e c+1)∨(kd=3∧x=e c+2):=fun x hx kd hkd hp=>by
  simp only [kindP,Bool.and_eq_true,beq_iff_eq] at hp
  rcases h.what hx with ⟨c',hc',g1,g2⟩|⟨i,c',_,_,_,_,_,g1,_⟩
  ·have:c'=c:=by omega
   subst this
   rcases g1 with ⟨g1,g3⟩|⟨g1,g3⟩|⟨g1,g3⟩
   ·exact .inl ⟨by omega,g1⟩
   ·exact .inr (.inl ⟨by omega,g1⟩)
   ·exact .inr (.inr ⟨by omega,g1⟩)
  ·omega
 refine⟨endS_one (by omega) (by simp [kindP,a5]) fun x hx hp=>?_,endS_one (by omega) (by simp [kindP,a7]) fun x hx hp=>?_,endS_one (by omega) (by simp [kindP,a8]) fun x hx hp=>?_⟩
 ·have:=key x hx 1 (.inl rfl) hp;omega
 ·have:=key x hx 2 (.inr (.inl rfl)) hp;omega
 ·have:=key x hx 3 (.inr (.inr rfl)) hp;omega
end
theorem lay_ps (ns:List Nd) (s:BSt) (q:Nat):(layS ns s q).ps=s.ps++[(q:Int)]:=by
 simp only [layS]
theorem build_ps (ns:List Nd):∀ (l:List Int) (s:BSt),(buildR ns l s).ps.length≤s.ps.length+l.length:=by
 intro l
 induction l with
 | nil=>intro s;simp [buildR]
 | cons q l ih =>
  intro s
  simp only [buildR]
  split
  ·have:=ih (layS ns s q.toNat)
   rw [lay_ps] at this
   simp only [List.length_append,List.length_cons,List.length_nil] at this ⊢
   omega
  ·have:=ih ⟨s.n,s.f,s.of,s.ps,q.toNat+1⟩
   simp only [List.length_cons] at this ⊢
   omega
theorem cntB_le (p:Nat→Bool) (n:Nat):cntB p n≤n:=by
 induction n with
 | zero=>exact Nat.le_refl _
 | succ n ih =>
  have e:cntB p (n+1)=cntB p n+(match p n with|true=>1|false=>0):=rfl
  rw [e]
  cases p n<;>simp only<;>omega
theorem cnt_law {ns:List Nd} {root:Int} (rt:RightT ns root):(buildS ns root).n=3*(buildS ns root).ps.length+cntB (stP' ns) ns.length∧(buildS ns root).ps.length≤ns.length:=by
 obtain⟨e,h,hout⟩:=build_ok rt
 have hf:=h.fst
 have hrt:=rt.rt
 have hpos:=rt.pos
 constructor
 ·have:=cntB_same (p:=stP' ns) (i:=(buildS ns root).fst) (ns.length - (buildS ns root).fst) (fun j h1 h2=>hout j h1 (by omega))
  rw [show (buildS ns root).fst+(ns.length - (buildS ns root).fst)=ns.length by omega] at this
  rw [this];exact h.num
 ·have h1:=build_ps ns (nd ns root.toNat).kids bst0
  have h2:=rt.many root.toNat (by omega)
  have:(buildS ns root).ps.length≤_:=h1
  simp only [bst0,List.length_nil] at this
  omega
end Go.Ru
namespace Go.Ru
def baseG (g:GN):GN:=⟨g.k,g.pl,g.pr,[],-1⟩
def prcL (ns:List Nd):Nat→List Int
 | 0=>[]
 | n+1=>prcL ns n++(if (nd ns n).k=3 then [(n:Int)] else [])
def crB (ns:List Nd) (root q:Int) (i:Nat):Bool:=stB (nd ns i).k&&own ns root i==q
def crS (ns:List Nd) (root q num:Int):Nat→Nat→Nat×(Nat→GN)→Nat×(Nat→GN)
 | 0,_,s=>s
 | m+1,i,s=>crS ns root q num m (i+1) (if crB ns root q i then (s.1+1,addG s.1 s.2 ⟨4,(i:Int),num,[],-1⟩) else s)
def crP (ns:List Nd) (root:Int):List Int→Int→Nat×(Nat→GN)→Nat×(Nat→GN)
 | [],_,s=>s
 | q::r,c,s=>crP ns root r (c+1) (crS ns root q c ns.length 0 (s.1+3,endsS s.1 s.2 q c))
theorem crP_snoc (ns:List Nd) (root q:Int):∀ (l:List Int) (c:Int) (s:Nat×(Nat→GN)),crP ns root (l++[q]) c s=crS ns root q (c+l.length) ns.length 0 ((crP ns root l c s).1+3,endsS (crP ns root l c s).1 (crP ns root l c s).2 q (c+l.length)):=by
 intro l
 induction l with
 | nil=>intro c s;simp [crP]
 | cons x l ih =>
  intro c s
  simp only [List.cons_append,crP]
  rw [ih]
  have:c+1+(l.length:Int)=c+((x::l).length:Int):=by simp only [List.length_cons];omega
  rw [this]
theorem crS_add (ns:List Nd) (root q num:Int):∀ (a b i:Nat) (s:Nat×(Nat→GN)),crS ns root q num (a+b) i s=crS ns root q num b (i+a) (crS ns root q num a i s):=by
 intro a
 induction a with
 | zero=>intro b i s;simp [crS]
 | succ a ih =>
  intro b i s
  rw [show a+1+b=(a+b)+1 by omega]
  simp only [crS]
  rw [ih,show i+1+a=i+(a+1) by omega]
theorem crS_skip (ns:List Nd) (root q num:Int):∀ (m i:Nat) (s:Nat×(Nat→GN)),(∀ j,i≤j→j<i+m→crB ns root q j=false)→crS ns root q num m i s=s:=by
 intro m
 induction m with
 | zero=>intro i s _;rfl
 | succ m ih =>
  intro i s h
  simp only [crS,h i (Nat.le_refl _) (by omega)]
  exact ih (i+1) _ fun j h1 h2=>h j (by omega) (by omega)
def SameB (s:Nat×(Nat→GN)) (n:Nat) (f:Nat→GN):Prop:=s.1=n∧∀ x,x<n→s.2 x=baseG (f x)
theorem SameB.add {s:Nat×(Nat→GN)} {n:Nat} {f:Nat→GN} (h:SameB s n f) (g:GN) (hg:baseG g=g):SameB (s.1+1,addG s.1 s.2 g) (n+1) (addG n f g):=by
 obtain⟨h1,h2⟩:=h
 refine⟨by simp only;omega,fun x hx=>?_⟩
 simp only [addG,h1]
 by_cases e:x=n
 ·simp only [e,if_true,hg]
 ·simp only [e,if_false];exact h2 x (by omega)
theorem crS_steps (ns:List Nd) (root q num:Int):∀ (m i:Nat) (s:Nat×(Nat→GN)) (t:SS),SameB s t.n t.f→(∀ j,i≤j→j<i+m→stB (nd ns j).k=true→own ns root j=q) →
  SameB (crS ns root q num m i s) (stepsS ns num m i t).n (stepsS ns num m i t).f:=by
 intro m
 induction m with
 | zero=>intro i s t h _;exact h
 | succ m ih =>
  intro i s t h ho
  by_cases hs:stB (nd ns i).k=true
  ·simp only [crS,stepsS,crB,hs,ho i (Nat.le_refl _) (by omega) hs,Bool.true_and,beq_self_eq_true,if_true]
   exact ih (i+1) _ ⟨t.n+1,addG t.n t.f ⟨4,(i:Int),num,[],-1⟩,insO t.of i t.n⟩ (h.add _ rfl) fun j h1 h2=>ho j (by omega) (by omega)
  ·have hs:stB (nd ns i).k=false:=by simpa using hs
   simp only [crS,stepsS,crB,hs,Bool.false_and,if_false,Bool.false_eq_true]
   exact ih (i+1) s t h fun j h1 h2=>ho j (by omega) (by omega)
structure ProcL (ns:List Nd) (root:Int) (at':Nat→Nat) (F:Nat→GN) (c x q b:Nat):Prop where
 q3:(nd ns q).k=3
 ql:q<ns.length
 body:(nd ns q).kids.getD ((nd ns q).kids.length - 1) 0=(b:Int)
 kne:0<(nd ns q).kids.length
 bq:b<q
 b6:(nd ns b).k=6
 f0:F x=⟨1,(q:Int),(c:Int),[rowG ns at' 4000 (nd ns b).kids ((x:Int)+1)],-1⟩
 f1:F (x+1)=⟨2,(q:Int),(c:Int),[],-1⟩
 f2:F (x+2)=⟨3,(q:Int),(c:Int),[],-1⟩
 row:LRow ns at' (LaidF ns at' F ((x:Int)+1) 4000) 4000 (nd ns b).kids ((x:Int)+1) ((x:Int)+2)
 sts:∀ j,j<ns.length→(Inn ns b j↔stB (nd ns j).k=true∧own ns root j=(q:Int))
section
variable {ns:List Nd} {root:Int} (rt:RightT ns root)
include rt
structure LayN (ns:List Nd) (root:Int) (s s':BSt) (q:Nat):Prop where
 n:s.n+3≤s'.n
 old:∀ x,x<s.n→s'.f x=s.f x
 ofo:∀ j:Nat,j<s.fst→s'.of (j:Int)=s.of (j:Int)
 ps:s'.ps=s.ps++[(q:Int)]
 fst:s'.fst=q+1
 nw:∀ (at':Nat→Nat) (F:Nat→GN),(∀ j,j<q+1→stB (nd ns j).k=true→atO s'.of j=at' j)→(∀ x,x<s'.n→F x=s'.f x)→∃ b,ProcL ns root at' F s.ps.length s.n q b
 cr:∀ r:Nat×(Nat→GN),SameB r s.n s.f→SameB (crS ns root (q:Int) (s.ps.length:Int) ns.length 0 (r.1+3,endsS r.1 r.2 (q:Int) (s.ps.length:Int))) s'.n s'.f
theorem lay_new {s:BSt} {e:Nat→Nat} (h:BInv ns root s e) {q:Nat} (hf:s.fst≤q) (hq:(q:Int)<root) (hk:(nd ns q).k=3)
  (hin:∀ j:Nat,s.fst≤j→j≤q→lowS ns q<(j:Int)) (hout:(s.fst:Int)≤lowS ns q+1):LayN ns root s (layS ns s q) q:=by
 have hrt:=rt.rt
 have hlen:=rt.len
 have hql:q<ns.length:=by omega
 obtain⟨l,b,hkids,hkb,hpars⟩:=rt.body hql hk
 have hbm:b∈(nd ns q).kids:=by rw [hkids];simp
 obtain⟨b0,b1,b2⟩:=rt.kid q hql b hbm
 have hbody:(nd ns q).kids.getD ((nd ns q).kids.length - 1) 0=b:=by rw [hkids];simp
 have hstb:∀ j,s.fst≤j→j<q+1→stB (nd ns j).k=true→Inn ns b.toNat j:=fun j h1 h2 h3=>by
  have:Inn ns q j:=⟨hin j h1 (by omega),by omega,h3⟩
  rcases (rt.inn hql).1 this with ⟨rfl,h4⟩|⟨x,hx,hj⟩
  ·have:=stB_iff.1 h4;omega
  ·rw [hkids] at hx
   rcases List.mem_append.1 hx with hx|hx
   ·obtain⟨x0,x1,_⟩:=rt.kid q hql x (by rw [hkids];simp [hx])
    exact (rt.noInn (by omega) (by have:=hpars x hx;omega) hj).elim
   ·simp only [List.mem_cons,List.not_mem_nil,or_false] at hx;subst hx;exact hj
 have hbin:∀ j,Inn ns b.toNat j→s.fst≤j∧j<q∧stB (nd ns j).k=true:=fun j ⟨h1,h2,h3⟩=>⟨by omega,by omega,h3⟩
 obtain⟨s1,hs1⟩:∃ s1,stepsS ns (s.ps.length:Int) (q - s.fst) s.fst ⟨s.n+3,endsS s.n s.f (q:Int) (s.ps.length:Int),s.of⟩=s1:=⟨_,rfl⟩
 have S:=steps_ok ns (s.ps.length:Int) (q - s.fst) s.fst ⟨s.n+3,endsS s.n s.f (q:Int) (s.ps.length:Int),s.of⟩
 rw [hs1] at S
 have hfq:s.fst+(q - s.fst)=q:=by omega
 have hat:∀ j,Inn ns b.toNat j→s1.of (j:Int)=some (atO s1.of j)∧s.n+3≤atO s1.of j∧atO s1.of j<s1.n∧s1.f (atO s1.of j)=⟨4,(j:Int),(s.ps.length:Int),[],-1⟩:=fun j hj=>by
  obtain⟨h1,h2,h3⟩:=hbin j hj
  obtain⟨x,a1,a2,a3,a4⟩:=S.new j h1 (by omega) h3
  have:atO s1.of j=x:=by simp [atO,a1]
  rw [this];exact⟨a1,a2,a3,a4⟩
 have hinj:∀ j j',Inn ns b.toNat j→Inn ns b.toNat j'→atO s1.of j=atO s1.of j'→j=j':=fun j j' hj hj' he=>by
  obtain⟨h1,h2,h3⟩:=hbin j hj
  obtain⟨h1',h2',h3'⟩:=hbin j' hj'
  exact steps_inj S h1 (by omega) h3 h1' (by omega) h3' (hat j hj).1 (by rw [he];exact (hat j' hj').1)
 have L:=block_laid rt (of:=s1.of) (ex:=(s.n:Int)+1) (m:=4000) (stmt_laid rt 4000) (b:=b.toNat) (by omega) (by omega) hkb hinj ((s.n:Int)+2) (by omega) ((s.n:Int)+1) s1.f
 obtain⟨bg,G,hr⟩:∃ bg G,flBlock ns s1.of ((s.n:Int)+1) 4000 b.toNat ((s.n:Int)+1) ((s.n:Int)+2) s1.f=(bg,G):=⟨_,_,rfl⟩
 rw [hr] at L
 have hlay:layS ns s q=⟨s1.n,setG G s.n [bg] (G s.n).ra,s1.of,s.ps++[(q:Int)],q+1⟩:=by
  simp only [layS,hs1,hbody,hr]
 rw [hlay]
 have hle:=S.le
 simp only at hle
 have hGlow:∀ x,x<s.n+3→G x=endsS s.n s.f (q:Int) (s.ps.length:Int) x:=fun x hx=>by
  have:=L.frame x fun j hj e=>by have:=(hat j hj).2.1;omega
  simp only at this
  rw [this,S.old x (by simp only;omega)]
 have e0:G s.n=⟨1,(q:Int),(s.ps.length:Int),[],-1⟩:=by
  rw [hGlow _ (by omega)];simp [endsS,addG]
 have e1:G (s.n+1)=⟨2,(q:Int),(s.ps.length:Int),[],-1⟩:=by
  rw [hGlow _ (by omega)];simp [endsS,addG]
 have e2:G (s.n+2)=⟨3,(q:Int),(s.ps.length:Int),[],-1⟩:=by
  rw [hGlow _ (by omega)];simp [endsS,addG]
 have eO:∀ x,x<s.n→G x=s.f x:=fun x hx=>by
  rw [hGlow _ (by omega)]
  simp only [endsS,addG,if_neg (show x≠s.n+2 by omega),if_neg (show x≠s.n+1 by omega),if_neg (show x≠s.n by omega)]
 have hown:∀ j,s.fst≤j→j≤q→own ns root j=(q:Int):=fun j h1 h2=>by
  rw [rt.ownSub q hql (by omega) j (hin j h1 h2) h2,rt.ownProc hql hk]
 have hlow:∀ j,j<s.fst→stB (nd ns j).k=true→own ns root j≠(q:Int):=fun j h1 h2 e=>by
  obtain⟨x,c,_,_,hc,hpc,_⟩:=h.st j h1 h2
  obtain⟨q',a1,a2,_⟩:=h.pr c hc
  rw [a1] at hpc
  injection hpc with hpc
  omega
 have hhigh:∀ j,q<j→j<ns.length→own ns root j≠(q:Int):=fun j h1 h2 e=>by
  rcases own_range rt.toStd h2 with h|⟨h,_⟩<;>omega
 refine⟨by simp only;omega,fun x hx=>?_,fun j hj=>S.ofo (j:Int) (.inl (by omega)),rfl,rfl,fun at' F ha hF=>?_,fun r hr0=>?_⟩
 ·simp only [setG,if_neg (show x≠s.n by omega)];exact eO x hx
 ·have ha':∀ j,Inn ns b.toNat j→atO s1.of j=at' j:=fun j hj=>by
   obtain⟨h1,h2,h3⟩:=hbin j hj
   exact ha j (by omega) h3
  obtain⟨g1,g2⟩:=block_lf rt (of:=s1.of) (at':=at') (ex:=(s.n:Int)+1) (m:=4000) (stmt_lf rt 4000) (b:=b.toNat) (by omega) (by omega) hkb ha' hinj ((s.n:Int)+2) (by omega) ((s.n:Int)+1) s1.f
  have hr':flRow (flStmt ns s1.of ((s.n:Int)+1) 4000) ((s.n:Int)+2) (nd ns b.toNat).kids.reverse ((s.n:Int)+1) s1.f=(bg,G):=hr
  rw [hr'] at g1 g2
  simp only at g1 g2
  refine⟨b.toNat,⟨hk,hql,by rw [hbody];omega,by rw [hkids];simp,by omega,hkb,?_,?_,?_,g2 F fun j hj=>?_,fun j hjl=>⟨fun hj=>?_,fun ⟨h1,h2⟩=>?_⟩⟩⟩
  ·rw [hF s.n (by simp only;omega)];simp only [setG,if_pos,e0];rw [g1]
  ·rw [hF (s.n+1) (by simp only;omega)];simp only [setG,if_neg (show s.n+1≠s.n by omega)];exact e1
  ·rw [hF (s.n+2) (by simp only;omega)];simp only [setG,if_neg (show s.n+2≠s.n by omega)];exact e2
  ·have h2:=hat j hj
   rw [← ha' j hj,hF _ h2.2.2.1]
   simp only [setG,if_neg (show atO s1.of j≠s.n by omega)]
  ·obtain⟨h1,h2,h3⟩:=hbin j hj
   exact⟨h3,hown j h1 (by omega)⟩
  ·by_cases c1:j<s.fst
   ·exact absurd h2 (hlow j c1 h1)
   ·by_cases c2:q<j
    ·exact absurd h2 (hhigh j c2 hjl)
    ·exact hstb j (by omega) (by omega) h1
 ·have h0:SameB (r.1+3,endsS r.1 r.2 (q:Int) (s.ps.length:Int)) (s.n+3) (endsS s.n s.f (q:Int) (s.ps.length:Int)) :=
   ((hr0.add _ rfl).add _ rfl).add _ rfl
  rw [show ns.length=s.fst+((q - s.fst)+(ns.length - q)) by omega,crS_add,crS_add]
  rw [crS_skip ns root q _ s.fst 0 _ fun j _ h2=>by
   simp only [crB]
   cases hs:stB (nd ns j).k with
   | false=>rfl
   | true=>exact beq_eq_false_iff_ne.2 (hlow j (by omega) hs)]
  rw [crS_skip ns root q _ (ns.length - q) _ _ fun j h1 h2=>by
   simp only [crB]
   by_cases ej:j=q
   ·subst ej;rw [hk];rfl
   ·rw [beq_eq_false_iff_ne.2 (hhigh j (by omega) (by omega)),Bool.and_false]]
  have C:=crS_steps ns root q (s.ps.length:Int) (q - s.fst) (0+s.fst) _ ⟨s.n+3,endsS s.n s.f (q:Int) (s.ps.length:Int),s.of⟩ h0 fun j h1 h2 _=>hown j (by omega) (by omega)
  rw [Nat.zero_add,hs1] at C
  rw [Nat.zero_add]
  obtain⟨c1,c2⟩:=C
  refine⟨c1,fun x hx=>?_⟩
  rw [c2 x hx]
  have hs1f:∀ x,x<s1.n→baseG (s1.f x)=baseG (G x):=fun x hx=>by
   by_cases e3:x<s.n+3
   ·rw [hGlow x e3,S.old x (by simp only;omega)]
   ·obtain⟨j,a1,a2,a3,a4⟩:=S.back x (by simp only;omega) hx
    have hj:=hstb j a1 (by omega) a3
    have hax:atO s1.of j=x:=by simp [atO,a4]
    have Lt:=(L.laid (fun _=>True) trivial trivial trivial (fun _ _=>trivial)).2 j hj
    rw [hax] at Lt
    simp only [baseG]
    have k1:=Lt.k
    have k2:=Lt.pl
    have k3:=Lt.pr
    simp only at k1 k2 k3
    rw [k1,k2,k3]
  rw [hs1f x hx]
  by_cases ex:x=s.n
  ·subst ex;simp [setG,baseG]
  ·simp only [setG,if_neg ex]
end
end Go.Ru
namespace Go.Ru
def kidB (beg:Int→Int):List Int→Int→Int
 | [],k=>k
 | q::r,k=>match q != k - 1 || decide (q<0) with
  | true=>-1
  | false=>match decide (beg q<0) with
   | true=>-1
   | false=>kidB beg r (beg q)
def begF (ns:List Nd):Nat→Int→Int
 | 0,_=>-1
 | m+1,p=>kidB (begF ns m) (nd ns p.toNat).kids.reverse p
def aheadS (ns:List Nd):Bool:=(List.range ns.length).all fun i=>(nd ns i).kids.all fun q=>!(decide (q<0) || decide (q≥(i:Int)))
def sound4 (ns:List Nd) (root:Int):Bool :=
 !(decide ((ns.length:Int)<1) || (decide ((ns.length:Int)>4000) || root != (ns.length:Int) - 1))&&(aheadS ns&&begF ns ns.length ((ns.length:Int) - 1)==0)
theorem begF_more {ns:List Nd} (hk:∀ j,j<ns.length→∀ k∈(nd ns j).kids,0≤k∧k<(j:Int)):∀ (m m':Nat) (p:Nat),p<ns.length→p<m→p<m'→begF ns m p=begF ns m' p:=by
 intro m
 induction m with
 | zero=>intro m' p _ h;omega
 | succ m ih =>
  intro m' p hp h1 h2
  cases m' with
  | zero=>omega
  | succ m' =>
   simp only [begF,Int.toNat_natCast]
   have hk:=hk p hp
   have key:∀ (ks:List Int) (k:Int),(∀ q∈ks,0≤q∧q<(p:Int))→kidB (begF ns m) ks k=kidB (begF ns m') ks k:=by
    intro ks
    induction ks with
    | nil=>intro k _;rfl
    | cons q r ihk =>
     intro k hks
     have hq:=hks q (List.mem_cons_self ..)
     obtain⟨j,rfl⟩:∃ j:Nat,q=(j:Int):=⟨q.toNat,by omega⟩
     have e:=ih m' j (by omega) (by omega) (by omega)
     simp only [kidB,e]
     split
     ·rfl
     split
     ·rfl
     exact ihk _ fun q hq=>hks q (List.mem_cons_of_mem _ hq)
   exact key _ _ fun q hq=>hk q (List.mem_reverse.1 hq)
theorem begF_low {ns:List Nd} {root:Int} (hs:soundS ns root=true):∀ (m p:Nat),p<ns.length→p<m→begF ns m p=lowS ns p+1:=by
 have st:=std_of hs
 simp only [soundS,Bool.and_eq_true] at hs
 obtain⟨_,h4⟩:=hs
 split at h4
 case h_2=>simp at h4
 rename_i l hl
 obtain⟨hlen,hok,_⟩:=sizesS_inv ns [] l (fun i hi=>by simp at hi) hl
 obtain⟨_,he⟩:=sizesS_each ns [] l hl
 simp only [List.length_nil,Nat.zero_add] at hlen he
 have hsz:szOf ns=l:=by simp [szOf,hl]
 have hlow:∀ j:Nat,lowS ns j=(j:Int) - (l.getD j 0:Nat):=fun j=>by simp [lowS,hsz]
 intro m
 induction m with
 | zero=>intro p _ h;omega
 | succ m ih =>
  intro p hp hpm
  simp only [begF,Int.toNat_natCast]
  have key:∀ (ks:List Int) (last:Int) (size c:Nat),(∀ q∈ks,0≤q∧q<(p:Int))→kidsS (l.take p) ks last size=some c→kidB (begF ns m) ks (last+1)=last+1 - ((c:Int) - size):=by
   intro ks
   induction ks with
   | nil =>
    intro last size c _ h
    simp only [kidsS,Option.some.injEq] at h
    simp only [kidB];omega
   | cons q r ihk =>
    intro last size c hks h
    have hq:=hks q (List.mem_cons_self ..)
    simp only [kidsS] at h
    split at h
    case h_2=>simp at h
    rename_i hb
    simp only [Bool.and_eq_true,beq_iff_eq,decide_eq_true_eq] at hb
    obtain⟨rfl,hq0⟩:=hb
    obtain⟨j,rfl⟩:∃ j:Nat,q=(j:Int):=⟨q.toNat,by omega⟩
    have hg:(l.take p).getD ((j:Int)).toNat 0=l.getD j 0:=by
     rw [Int.toNat_natCast,List.getD_eq_getElem?_getD,List.getElem?_take,if_pos (by omega),List.getD_eq_getElem?_getD]
    rw [hg] at h
    have hj:=hok j (by omega)
    have e:=ih j (by omega) (by omega)
    rw [hlow] at e
    have h3:=ihk _ _ c (fun q hq=>hks q (List.mem_cons_of_mem _ hq)) h
    simp only [kidB,e]
    rw [show ((j:Int) != (j:Int)+1 - 1 || decide ((j:Int)<0))=false by simp]
    simp only
    rw [show decide ((j:Int) - (l.getD j 0:Nat)+1<0)=false from decide_eq_false (by omega)]
    simp only
    rw [h3];omega
  have h5:=key _ _ _ _ (fun q hq=>by have:=st.kid p hp q (List.mem_reverse.1 hq);exact⟨this.1,this.2.1⟩) (he p hp)
  rw [show ((p:Int) - 1+1)=(p:Int) by omega] at h5
  rw [h5,hlow];omega
theorem sound4_of {ns:List Nd} {root:Int} (hs:soundS ns root=true):sound4 ns root=true:=by
 have st:=std_of hs
 have h1:=st.pos
 have h2:=st.len
 have h3:=st.rt
 have hb:=begF_low hs ns.length (ns.length - 1) (by omega) (by omega)
 rw [st.low,show (((ns.length - 1:Nat):Int))=(ns.length:Int) - 1 by omega] at hb
 simp only [sound4,hb,h3,aheadS,Bool.and_eq_true,Bool.not_eq_true',Bool.or_eq_false_iff,decide_eq_false_iff_not,bne_self_eq_false,List.all_eq_true,List.mem_range,beq_iff_eq]
 refine⟨⟨by omega,by omega,trivial⟩,fun i hi q hq=>?_,by omega⟩
 have:=st.kid i hi q hq
 omega
theorem begF_in {ns:List Nd} (hk:∀ j,j<ns.length→∀ k∈(nd ns j).kids,0≤k∧k<(j:Int)):∀ (p:Nat),p<ns.length→0≤begF ns ns.length p→begF ns ns.length p≤p∧∀ x:Nat,begF ns ns.length p≤x→x≤p→0≤begF ns ns.length x:=by
 intro p
 induction p using Nat.strongRecOn with
 | _ p ih =>
  intro hp hb
  have hkp:=hk p hp
  have hun:begF ns ns.length p=kidB (begF ns ns.length) (nd ns p).kids.reverse p:=by
   rw [begF_more hk ns.length (ns.length+1) p hp hp (by omega)]
   simp only [begF,Int.toNat_natCast]
  have key:∀ (ks:List Int) (k:Int),k≤p→(∀ q∈ks,0≤q∧q<(p:Int))→0≤kidB (begF ns ns.length) ks k→kidB (begF ns ns.length) ks k≤k∧∀ x:Nat,kidB (begF ns ns.length) ks k≤x→(x:Int)<k→0≤begF ns ns.length x:=by
   intro ks
   induction ks with
   | nil=>intro k _ _ _;simp only [kidB];exact⟨Int.le_refl _,fun x h1 h2=>by omega⟩
   | cons q r ihk =>
    intro k hkp hks h
    have hq:=hks q (List.mem_cons_self ..)
    obtain⟨j,rfl⟩:∃ j:Nat,q=(j:Int):=⟨q.toNat,by omega⟩
    simp only [kidB] at h ⊢
    cases hc:((j:Int) != k - 1 || decide ((j:Int)<0)) with
    | true=>rw [hc] at h;simp at h
    | false =>
     rw [hc] at h
     simp only [Bool.or_eq_false_iff,bne_eq_false_iff_eq,decide_eq_false_iff_not] at hc
     simp only at h ⊢
     cases hd:decide (begF ns ns.length (j:Int)<0) with
     | true=>rw [hd] at h;simp at h
     | false =>
      rw [hd] at h
      have hd:=of_decide_eq_false hd
      simp only at h ⊢
      obtain⟨i1,i2⟩:=ih j (by omega) (by omega) (by omega)
      obtain⟨k1,k2⟩:=ihk _ (by omega) (fun q hq=>hks q (List.mem_cons_of_mem _ hq)) h
      refine⟨by omega,fun x h1 h2=>?_⟩
      by_cases e:(x:Int)<begF ns ns.length (j:Int)
      ·exact k2 x h1 e
      ·exact i2 x (by omega) (by omega)
  rw [hun] at hb
  obtain⟨h1,h2⟩:=key _ _ (Int.le_refl _) (fun q hq=>hkp q (List.mem_reverse.1 hq)) hb
  rw [← hun] at h1 h2
  refine⟨h1,fun x hx1 hx2=>?_⟩
  by_cases e:x=p
  ·subst e;rw [hun];exact hb
  ·exact h2 x hx1 (by omega)
def szB (ns:List Nd) (i:Nat):Nat:=((i:Int)+1 - begF ns ns.length i).toNat
theorem soundS_of4 {ns:List Nd} {root:Int} (h:sound4 ns root=true):soundS ns root=true:=by
 simp only [sound4,aheadS,Bool.and_eq_true,Bool.not_eq_true',Bool.or_eq_false_iff,decide_eq_false_iff_not,bne_eq_false_iff_eq,List.all_eq_true,List.mem_range,beq_iff_eq] at h
 obtain⟨⟨h1,h2,h3⟩,h4,h5⟩:=h
 have hk:∀ j,j<ns.length→∀ k∈(nd ns j).kids,0≤k∧k<(j:Int):=fun j hj k hkk=>by have:=h4 j hj k hkk;omega
 have hpos:0<ns.length:=by omega
 have hroot:begF ns ns.length ((ns.length - 1:Nat):Int)=0:=by rw [show (((ns.length - 1:Nat):Int))=(ns.length:Int) - 1 by omega];exact h5
 obtain⟨_,hall⟩:=begF_in hk (ns.length - 1) (by omega) (by omega)
 have hall:∀ x:Nat,x<ns.length→0≤begF ns ns.length x:=fun x hx=>hall x (by omega) (by omega)
 have hle:∀ x:Nat,x<ns.length→begF ns ns.length x≤x:=fun x hx=>(begF_in hk x hx (hall x hx)).1
 have hrow:∀ (r:List Nd) (i:Nat),ns.drop i=r→i≤ns.length→sizesS r ((List.range i).map (szB ns))=some ((List.range ns.length).map (szB ns)):=by
  intro r
  induction r with
  | nil =>
   intro i hd hi
   have:i=ns.length:=by
    have:=congrArg List.length hd
    simp at this;omega
   subst this;rfl
  | cons n r ihr =>
   intro i hd hi
   have hi2:i<ns.length:=by
    have:=congrArg List.length hd
    simp at this;omega
   have hn:n=nd ns i:=by
    have:=List.drop_eq_getElem_cons hi2
    rw [hd] at this
    injection this with this _
    rw [this];simp [nd,hi2]
   subst hn
   have hd2:ns.drop (i+1)=r:=by
    have:=List.drop_eq_getElem_cons hi2
    rw [hd] at this
    injection this with _ this
    exact this.symm
   have hun:begF ns ns.length i=kidB (begF ns ns.length) (nd ns i).kids.reverse i:=by
    rw [begF_more hk ns.length (ns.length+1) i hi2 hi2 (by omega)]
    simp only [begF,Int.toNat_natCast]
   have key:∀ (ks:List Int) (k:Int) (size:Nat),(∀ q∈ks,0≤q∧q<(i:Int))→0≤kidB (begF ns ns.length) ks k →
     kidsS ((List.range i).map (szB ns)) ks (k - 1) size=some (size+(k - kidB (begF ns ns.length) ks k).toNat)∧kidB (begF ns ns.length) ks k≤k:=by
    intro ks
    induction ks with
    | nil=>intro k size _ _;simp [kidsS,kidB]
    | cons q r ihk =>
     intro k size hks h
     have hq:=hks q (List.mem_cons_self ..)
     obtain⟨j,rfl⟩:∃ j:Nat,q=(j:Int):=⟨q.toNat,by omega⟩
     simp only [kidB,kidsS] at h ⊢
     cases hc:((j:Int) != k - 1 || decide ((j:Int)<0)) with
     | true=>rw [hc] at h;simp at h
     | false =>
      rw [hc] at h
      simp only [Bool.or_eq_false_iff,bne_eq_false_iff_eq,decide_eq_false_iff_not] at hc
      simp only at h ⊢
      cases hd:decide (begF ns ns.length (j:Int)<0) with
      | true=>rw [hd] at h;simp at h
      | false =>
       rw [hd] at h
       have hd:=of_decide_eq_false hd
       simp only at h ⊢
       have hg:((List.range i).map (szB ns)).getD ((j:Int)).toNat 0=szB ns j:=by
        rw [Int.toNat_natCast,List.getD_eq_getElem?_getD,List.getElem?_map,List.getElem?_range (by omega)];rfl
       have hjl:=hle j (by omega)
       obtain⟨k1,k2⟩:=ihk (begF ns ns.length (j:Int)) (size+szB ns j) (fun q hq=>hks q (List.mem_cons_of_mem _ hq)) h
       rw [show ((j:Int)==k - 1&&decide ((0:Int)≤(j:Int)))=true by simp [hc.1];omega,hg]
       simp only
       have e:(j:Int) - (szB ns j:Nat)=begF ns ns.length (j:Int) - 1:=by unfold szB;omega
       rw [e,k1]
       refine⟨?_,by omega⟩
       congr 1
       unfold szB
       omega
   obtain⟨k1,k2⟩:=key _ (i:Int) 1 (fun q hq=>hk i hi2 q (List.mem_reverse.1 hq)) (by rw [← hun];exact hall i hi2)
   rw [← hun] at k1 k2
   simp only [sizesS,List.length_map,List.length_range]
   rw [k1]
   simp only
   have e:(List.range i).map (szB ns)++[1+((i:Int) - begF ns ns.length i).toNat]=(List.range (i+1)).map (szB ns):=by
    rw [List.range_succ,List.map_append]
    congr 1
    simp only [List.map_cons,List.map_nil,szB]
    congr 1
    omega
   rw [e]
   exact ihr (i+1) hd2 (by omega)
 have hfull:=hrow ns 0 rfl (Nat.zero_le _)
 simp only [List.range_zero,List.map_nil] at hfull
 simp only [soundS,hfull]
 rw [h3]
 have e1:(ns.length==0)=false:=beq_eq_false_iff_ne.2 (by omega)
 have e2:decide (4000<ns.length)=false:=decide_eq_false (by omega)
 simp only [e1,e2,Bool.or_self,bne_self_eq_false,Bool.not_false,Bool.true_and]
 rw [show ((ns.length:Int) - 1).toNat=ns.length - 1 by omega,List.getD_eq_getElem?_getD,List.getElem?_map,List.getElem?_range (by omega)]
 simp only [Option.map_some,Option.getD_some,szB,hroot,beq_iff_eq]
 omega
theorem sound4_eq (ns:List Nd) (root:Int):sound4 ns root=soundS ns root:=by
 cases h:soundS ns root with
 | true=>exact sound4_of h
 | false =>
  cases h4:sound4 ns root with
  | false=>rfl
  | true=>rw [soundS_of4 h4] at h;cases h
end Go.Ru
namespace Go.Ru
open Go
theorem cnt_big (p:Int→Bool):∀ (m:Nat) (l:List Int),l.length≤m→cntS p m l=(l.takeWhile p).length:=by
 intro m
 induction m with
 | zero=>intro l h;have:=List.length_eq_zero_iff.1 (Nat.le_zero.1 h);subst this;rfl
 | succ m ih =>
  intro l h
  cases l with
  | nil=>rfl
  | cons a l =>
   cases hp:p a with
   | false=>rw [cnt_f hp,List.takeWhile_cons_of_neg (by simp [hp])];rfl
   | true=>rw [cnt_t hp,List.takeWhile_cons_of_pos hp,List.length_cons,ih l (by simpa using h)]
def headN (a:Int) (l:List Int):Nat:=(l.takeWhile (·==a)).length
def rises4 (l:List Int) (a b c:Int):Bool :=
 let i:=headN a l+headN b (l.drop (headN a l))
 match c != 0 with
 | true=>(i:Int)==(l.length:Int) - 1&&l.getD i 0==c
 | false=>(i:Int)==(l.length:Int)
def kids4 (k:Int) (l:List Int):Bool :=
 if k=1 then rises4 l 2 3 0
 else if k=3 then rises4 l 4 5 6
 else if k=6 then l.all stB
 else if k=7∨k=15∨k=17∨k=23∨k=26 then l.length==1&&l.all exB
 else if k=8∨k=27 then l.length==2&&l.all exB
 else if k=9 then l.length==1&&l.getD 0 0==18
 else if k=10 then l.length==2&&l.getD 0 0==18&&exB (l.getD 1 0)
 else if k=11 then l.length==3&&exB (l.getD 0 0)&&l.getD 1 0==6&&l.getD 2 0==6
 else if k=12 then l.length==2&&exB (l.getD 0 0)&&l.getD 1 0==6
 else if k=13 then decide (1≤l.length)&&l.getD 0 0==19&&l.tail.all exB
 else if k=14 then decide (l.length≤1)&&l.all exB
 else if k=16 then l.length==2&&l.getD 0 0==6&&l.getD 1 0==6
 else l.length==0
theorem take_all (p:Int→Bool) (l:List Int):((l.takeWhile p).length==l.length)=l.all p:=by
 induction l with
 | nil=>rfl
 | cons a l ih =>
  cases hp:p a with
  | false=>rw [List.takeWhile_cons_of_neg (by simp [hp]),List.all_cons,hp];simp
  | true =>
   rw [List.takeWhile_cons_of_pos hp,List.all_cons,hp,Bool.true_and,← ih]
   simp
theorem cnt_one (p:Int→Bool) (l:List Int):cntS p 1 l=match l with
  | []=>0
  | a::_=>if p a then 1 else 0:=by
 cases l with
 | nil=>rfl
 | cons a r=>cases h:p a<;>simp [cntS,h]
theorem cnt_two (p:Int→Bool) (l:List Int):cntS p 2 l=match l with
  | []=>0
  | [a]=>if p a then 1 else 0
  | a::b::_=>if p a then (if p b then 2 else 1) else 0:=by
 match l with
 | []=>rfl
 | [a]=>cases h:p a<;>simp [cntS,h]
 | a::b::r=>cases h:p a<;>cases h2:p b<;>simp [cntS,h,h2]
theorem cast_beq (a b:Nat):((a:Int)==(b:Int))=(a==b):=by
 rw [Bool.eq_iff_iff];simp;omega
theorem kids4_eq (k:Int) (l:List Int) (hl:l.length≤4000):kids4 k l=kidsOkS k l:=by
 have hd:∀ i,(l.drop i).length≤4000:=fun i=>by rw [List.length_drop];omega
 unfold kids4 kidsOkS
 extract_lets is a e
 by_cases h1:k=1
 ·rw [if_pos h1,if_pos h1]
  simp (config:={zetaDelta:=true}) only [rises4,headN,List.drop_zero,Nat.zero_add,cnt_big _ _ _ hl,cnt_big _ _ _ (hd _)]
  rfl
 rw [if_neg h1,if_neg h1]
 by_cases h2:k=3
 ·rw [if_pos h2,if_pos h2]
  simp (config:={zetaDelta:=true}) only [rises4,headN,List.drop_zero,Nat.zero_add,cnt_big _ _ _ hl,cnt_big _ _ _ (hd _)]
  generalize hi:(List.takeWhile (fun x=>x==4) l).length+(List.takeWhile (fun x=>x==5) (l.drop (List.takeWhile (fun x=>x==4) l).length)).length=i
  show ((i:Int)==(l.length:Int) - 1&&l.getD i 0==6)=_
  rw [cnt_one]
  by_cases h:i<l.length
  ·rw [List.drop_eq_getElem_cons h,List.getD_eq_getElem?_getD,List.getElem?_eq_getElem h]
   simp only [Option.getD_some]
   by_cases h6:l[i]=6
   ·rw [Bool.eq_iff_iff];simp [h6];omega
   ·have:(l[i]==6)=false:=beq_eq_false_iff_ne.2 h6
    rw [this];simp
  ·rw [List.drop_eq_nil_of_le (by omega)]
   rw [Bool.eq_iff_iff];simp;omega
 rw [if_neg h2,if_neg h2]
 by_cases h3:k=6
 ·rw [if_pos h3,if_pos h3]
  simp (config:={zetaDelta:=true}) only [List.drop_zero,cnt_big _ _ _ hl]
  rw [cast_beq,take_all]
 rw [if_neg h3,if_neg h3]
 by_cases h4:k=7∨k=15∨k=17∨k=23∨k=26
 ·rw [if_pos h4,if_pos (show k=7∨k=17∨k=15∨k=23∨k=26 by omega)]
  simp (config:={zetaDelta:=true}) only [List.drop_zero,Nat.zero_add,cnt_one]
  match l with
  | []=>simp
  | [a]=>cases h:exB a<;>simp [h]
  | a::b::r=>cases h:exB a<;>simp [h]<;>omega
 rw [if_neg h4,if_neg (show ¬ (k=7∨k=17∨k=15∨k=23∨k=26) by omega)]
 by_cases h5:k=8∨k=27
 ·rw [if_pos h5,if_pos h5]
  simp (config:={zetaDelta:=true}) only [List.drop_zero,Nat.zero_add,cnt_two]
  match l with
  | []=>simp
  | [a]=>cases h:exB a<;>simp [h]
  | [a,b]=>cases h:exB a<;>cases h':exB b<;>simp [h,h']
  | a::b::c::r=>cases h:exB a<;>cases h':exB b<;>simp [h,h']<;>omega
 rw [if_neg h5,if_neg h5]
 by_cases h6:k=9
 ·rw [if_pos h6,if_pos h6]
  simp (config:={zetaDelta:=true}) only [List.drop_zero,Nat.zero_add,cnt_one]
  match l with
  | []=>simp
  | [a]=>cases h:(a==18)<;>simp [h]
  | a::b::r=>cases h:(a==18)<;>simp [h]<;>omega
 rw [if_neg h6,if_neg h6]
 by_cases h7:k=10
 ·rw [if_pos h7,if_pos h7]
  simp (config:={zetaDelta:=true}) only [List.drop_zero,Nat.zero_add,cnt_one]
  match l with
  | []=>simp
  | [a]=>cases h:(a==18)<;>simp [h]
  | [a,b]=>cases h:(a==18)<;>cases h':exB b<;>simp [h,h']
  | a::b::c::r=>cases h:(a==18)<;>cases h':exB b<;>simp [h,h']<;>omega
 rw [if_neg h7,if_neg h7]
 by_cases h8:k=11
 ·rw [if_pos h8,if_pos h8]
  simp (config:={zetaDelta:=true}) only [List.drop_zero,Nat.zero_add,cnt_one,cnt_two]
  match l with
  | []=>simp
  | [a]=>cases h:exB a<;>simp [h]
  | [a,b]=>cases h:exB a<;>cases h':(b==6)<;>simp [h,h']
  | [a,b,c]=>cases h:exB a<;>cases h':(b==6)<;>cases h2:(c==6)<;>simp [h,h',h2]
  | a::b::c::d::r=>cases h:exB a<;>cases h':(b==6)<;>cases h2:(c==6)<;>simp [h,h',h2]<;>omega
 rw [if_neg h8,if_neg h8]
 by_cases h9:k=12
 ·rw [if_pos h9,if_pos h9]
  simp (config:={zetaDelta:=true}) only [List.drop_zero,Nat.zero_add,cnt_one]
  match l with
  | []=>simp
  | [a]=>cases h:exB a<;>simp [h]
  | [a,b]=>cases h:exB a<;>cases h':(b==6)<;>simp [h,h']
  | a::b::c::r=>cases h:exB a<;>cases h':(b==6)<;>simp [h,h']<;>omega
 rw [if_neg h9,if_neg h9]
 by_cases h10:k=13
 ·rw [if_pos h10,if_pos h10]
  simp (config:={zetaDelta:=true}) only [List.drop_zero,Nat.zero_add,cnt_one,cnt_big _ _ _ (hd _)]
  match l with
  | []=>simp
  | a::r =>
   cases h:(a==19) with
   | false=>simp [h]
   | true =>
    simp only [h,if_true,List.drop_succ_cons,List.drop_zero,List.tail_cons,List.length_cons,List.getD_cons_zero,Bool.and_true]
    rw [← take_all,Bool.eq_iff_iff]
    simp;omega
 rw [if_neg h10,if_neg h10]
 by_cases h11:k=14
 ·rw [if_pos h11,if_pos h11]
  simp (config:={zetaDelta:=true}) only [List.drop_zero,Nat.zero_add,cnt_one]
  match l with
  | []=>simp
  | [a]=>cases h:exB a<;>simp [h]
  | a::b::r=>cases h:exB a<;>simp [h]<;>omega
 rw [if_neg h11,if_neg h11]
 by_cases h12:k=16
 ·rw [if_pos h12,if_pos h12]
  simp (config:={zetaDelta:=true}) only [List.drop_zero,Nat.zero_add,cnt_two]
  match l with
  | []=>simp
  | [a]=>cases h:(a==6)<;>simp [h]
  | [a,b]=>cases h:(a==6)<;>cases h':(b==6)<;>simp [h,h']
  | a::b::c::r=>cases h:(a==6)<;>cases h':(b==6)<;>simp [h,h']<;>omega
 rw [if_neg h12,if_neg h12]
 show (l.length==0)=(((0:Nat):Int)==(l.length:Int))
 rw [cast_beq]
 cases l<;>rfl
end Go.Ru
namespace Go.Ru
open Go
set_option maxRecDepth 20000
def joinW:List Bs→Bs
 | []=>[32]
 | w::r=>32::(w++joinW r)
def keptW:List Bs:=[[118,97,114],[112,114,111,99],[105,110,116],[98,111,111,108],[97,114,114],[102,117,110],[105,110],[111,117,116],[105,102],[101,108,115,101],[119,104,105,108,101],[99,97,108,108],[114,101,116,117,114,110],[116,104,114,111,119],[116,114,121],[99,97,116,99,104],[110,101,119],[108,101,110],[116,114,117,101],[102,97,108,115,101]]
theorem keptT_eq:keptT=joinW keptW:=rfl
theorem contains_cons (b:UInt8) (l sub:Bs):Lib.contains (b::l) sub=(sub.isPrefixOf (b::l) || Lib.contains l sub):=by
 have hge:=Lib.index_ge l sub
 simp only [Lib.contains,Lib.index]
 by_cases hp:sub.isPrefixOf (b::l)=true
 ·simp [hp]
 ·simp only [hp]
  by_cases h:Lib.index l sub=-1
  ·simp [h]
  ·have h0:0≤Lib.index l sub:=by omega
   have h2:0≤Lib.index l sub+1:=by omega
   simp [h,h0,h2]
theorem contains_skip (w t x:Bs) (h:∀ c∈w,c≠32):Lib.contains (w++t) (32::x)=Lib.contains t (32::x):=by
 induction w with
 | nil=>rfl
 | cons c w ih =>
  have hc:(32==c)=false:=by
   have:=h c (by simp)
   simpa using fun e=>this e.symm
  rw [List.cons_append,contains_cons,ih fun c hc=>h c (by simp [hc])]
  simp [List.isPrefixOf,hc]
theorem prefix_word (s w t:Bs) (hs:∀ c∈s,c≠32) (hw:∀ c∈w,c≠32):(s++[32]).isPrefixOf (w++32::t)=(w==s):=by
 induction s generalizing w with
 | nil =>
  cases w with
  | nil=>rfl
  | cons c w =>
   have:(32==c)=false:=by
    have:=hw c (by simp)
    simpa using fun e=>this e.symm
   simp [List.isPrefixOf,this]
 | cons a s ih =>
  cases w with
  | nil =>
   have:(a==32)=false:=by simpa using hs a (by simp)
   simp [List.isPrefixOf,this]
  | cons c w =>
   have:=ih w (fun c hc=>hs c (by simp [hc])) (fun c hc=>hw c (by simp [hc]))
   simp only [List.cons_append,List.isPrefixOf,this]
   by_cases e:a=c
   ·subst e;simp
   ·have h1:(a==c)=false:=by simpa using e
    have h2:((c::w)==(a::s))=false:=by
     simp only [beq_eq_false_iff_ne,ne_eq,List.cons.injEq,not_and]
     exact fun h=>absurd h.symm e
    rw [h1,h2];rfl
theorem contains_words (ws:List Bs) (s:Bs) (hs:∀ c∈s,c≠32) (hws:∀ w∈ws,∀ c∈w,c≠32):Lib.contains (joinW ws) (32::(s++[32]))=ws.any (·==s):=by
 induction ws with
 | nil =>
  simp only [joinW,contains_cons,List.any_nil]
  cases s<;>simp [List.isPrefixOf,Lib.contains,Lib.index]
 | cons w ws ih =>
  have hj:∃ t,joinW ws=32::t:=by cases ws<;>exact⟨_,rfl⟩
  obtain⟨t,ht⟩:=hj
  simp only [joinW,contains_cons,List.any_cons]
  rw [contains_skip _ _ _ (hws w (by simp)),ih fun w hw=>hws w (by simp [hw])]
  congr 1
  rw [ht]
  simp only [List.isPrefixOf,beq_self_eq_true,Bool.true_and]
  exact prefix_word s w t hs (hws w (by simp))
theorem indexByte_neg {l:Bs} {c:UInt8}:Lib.indexByte l c<0↔∀ b∈l,b≠c:=by
 induction l with
 | nil=>simp [Lib.indexByte]
 | cons a l ih =>
  have hge:=Lib.indexByte_ge l c
  simp only [Lib.indexByte,List.mem_cons,forall_eq_or_imp]
  by_cases h:a=c
  ·simp [h]
  ·have h':(a==c)=false:=by simpa using h
   simp only [h',Bool.false_eq_true,if_false]
   rw [← ih]
   by_cases h2:Lib.indexByte l c=-1
   ·simp [h2,h]
   ·have:(Lib.indexByte l c==-1)=false:=by simpa using h2
    simp only [this,Bool.false_eq_true,if_false]
    constructor
    ·intro hx;omega
    ·intro hx;omega
theorem keptP_any (l:Bs):keptP l=keptW.any (·==l):=by
 have hws:∀ w∈keptW,∀ c∈w,c≠32:=by decide
 simp only [keptP]
 by_cases hn:l=[]
 ·subst hn;rfl
 ·by_cases hi:Lib.indexByte l 32<0
  ·have hc:=contains_words keptW l (indexByte_neg.1 hi) hws
   have h1:(l==[])=false:=by simpa using hn
   rw [h1]
   simp only [Bool.not_false,Bool.true_and,decide_eq_true hi]
   rw [keptT_eq,← hc];simp
  ·have h1:keptW.any (·==l)=false:=by
    rw [List.any_eq_false]
    intro w hw e
    have e:w=l:=by simpa using e
    subst e
    exact hi (indexByte_neg.2 (hws w hw))
   rw [h1,decide_eq_false hi];simp
end Go.Ru
namespace Go.Ru
open Go
set_option maxRecDepth 20000
def signW:List Bs:=[[43],[45],[42],[47],[37],[61,61],[33,61],[60],[60,61],[62],[62,61],[38,38],[124,124]]
theorem signsT_eq:signsT=joinW signW:=rfl
theorem signed_any (l:Bs):signedP l=signW.any (·==l):=by
 unfold signedP
 by_cases h0:l=[]
 ·subst h0;decide
 have e0:(l==[])=false:=by cases l<;>simp at h0 ⊢
 rw [e0]
 by_cases h1:Lib.indexByte l 32<0
 ·rw [decide_eq_true h1]
  have hs:=indexByte_neg.1 h1
  rw [signsT_eq]
  show (true&&(true&&Lib.contains (joinW signW) (32::(l++[32]))))=_
  rw [contains_words signW l hs (by decide)]
  rfl
 ·rw [decide_eq_false h1]
  show false=_
  symm
  rw [List.any_eq_false]
  intro w hw e
  have e:=eq_of_beq e
  subst e
  refine h1 (indexByte_neg.2 ?_)
  revert w
  decide
def text4 (k:Int) (l:Bs):Bool :=
 if k=2∨k=3∨k=4∨k=5∨k=7∨k=8∨k=9∨k=16∨k=17∨k=18∨k=19∨k=22∨k=23∨k=24∨k=25 then identP l
 else if k=13 then identP l || l==[]
 else if k=26 then l==[45] || l==[33]
 else if k=27 then signW.any (·==l)
 else l==[]
theorem text4_eq {k:Int} (l:Bs) (h0:1≤k) (h1:k≤27):text4 k l=textS k l:=by
 unfold text4 textS
 by_cases h2:k=2∨k=3∨k=4∨k=5∨k=7∨k=8∨k=9∨k=16∨k=17∨k=18∨k=19∨k=22∨k=23∨k=24∨k=25
 ·rw [if_pos h2,if_neg (show ¬ (k=1∨k=6∨k=10∨k=11∨k=12∨k=14∨k=15∨k=20∨k=21) by omega),if_neg (show ¬ k=13 by omega),if_neg (show ¬ k=26 by omega),if_neg (show ¬ k=27 by omega)]
 rw [if_neg h2]
 by_cases h3:k=13
 ·rw [if_pos h3,if_neg (show ¬ (k=1∨k=6∨k=10∨k=11∨k=12∨k=14∨k=15∨k=20∨k=21) by omega),if_pos h3,Bool.or_comm]
 rw [if_neg h3]
 by_cases h4:k=26
 ·rw [if_pos h4,if_neg (show ¬ (k=1∨k=6∨k=10∨k=11∨k=12∨k=14∨k=15∨k=20∨k=21) by omega),if_neg h3,if_pos h4]
 rw [if_neg h4]
 by_cases h5:k=27
 ·rw [if_pos h5,if_neg (show ¬ (k=1∨k=6∨k=10∨k=11∨k=12∨k=14∨k=15∨k=20∨k=21) by omega),if_neg h3,if_neg h4,if_pos h5,signed_any]
 rw [if_neg h5,if_pos (show k=1∨k=6∨k=10∨k=11∨k=12∨k=14∨k=15∨k=20∨k=21 by omega)]
def node4 (ns:List Nd) (n:Nd):Bool:=!(decide (n.k<1) || (decide (n.k>27) || (!text4 n.k n.tx || (!numberS n.k n.n || !kids4 n.k (kindsS ns n)))))
theorem node4_eq {ns:List Nd} {n:Nd} (h:n.kids.length≤4000):node4 ns n=nodeOkS ns n:=by
 unfold node4 nodeOkS
 rw [kids4_eq _ _ (by simp [kindsS];exact h)]
 by_cases h0:1≤n.k
 ·by_cases h1:n.k≤27
  ·rw [text4_eq _ h0 h1,decide_eq_false (show ¬ n.k<1 by omega),decide_eq_false (show ¬ n.k>27 by omega),decide_eq_true h0,decide_eq_true h1]
   cases textS n.k n.tx<;>cases numberS n.k n.n<;>cases kidsOkS n.k (kindsS ns n)<;>rfl
  ·rw [decide_eq_true (show n.k>27 by omega),decide_eq_false h1];simp
 ·rw [decide_eq_true (show n.k<1 by omega),decide_eq_false h0];simp
end Go.Ru
namespace Go.AE
open Go.Proofs
def isG (b:Nat):Prop:=False
 ∨ b=0
 ∨ b=1
 ∨ b=2
 ∨ b=3
structure GFacts (w:World):Prop where
 tr:True
 maxLen:∃ n,w.cell? ⟨0,0,none⟩=some (.int .i64 n)
 errSyntax:∃ v,w.cell? ⟨1,0,none⟩=some v∧(v=.nilIface∨∃ te pe,v=.iface te pe)
 errRange:∃ v,w.cell? ⟨2,0,none⟩=some v∧(v=.nilIface∨∃ te pe,v=.iface te pe)
 pow10 : Lib.TabIs Tryz.prog w "internal/strconv.uint64pow10" .u64 Lib.pow10Tab
theorem cell?_same {w w':World} {b o:Nat} (h:w'.heap[b]?=w.heap[b]?):w'.cell? ⟨b,o,none⟩=w.cell? ⟨b,o,none⟩:=by
 simp [World.cell?,h]
theorem pow10_named : Tryz.prog.globalNamed "internal/strconv.uint64pow10" = some 3 := by kernel_rfl
theorem GFacts.same {w w':World} (h:GFacts w) (hs:∀ b,isG b→w'.heap[b]?=w.heap[b]?):GFacts w' where
 tr:=trivial
 maxLen:=by rw [cell?_same (hs _ (by simp [isG]))];exact h.maxLen
 errSyntax:=by rw [cell?_same (hs _ (by simp [isG]))];exact h.errSyntax
 errRange:=by rw [cell?_same (hs _ (by simp [isG]))];exact h.errRange
 pow10:=by
  have e:=hs 3 (by simp [isG])
  have:=h.pow10
  simp only [Lib.TabIs,World.var?,pow10_named,Option.bind_some,e] at this ⊢
  exact this
structure Gl (w:World) (I:Nat→Prop):Prop where
 imm:∀ b,isG b→I b
 facts:GFacts w
theorem Gl.mono {w w':World} {I I':Nat→Prop} (hI:∀ b,I b→I' b) (hs:∀ b,I b→w'.heap[b]?=w.heap[b]?) (h:Gl w I):Gl w' I' :=
 ⟨fun b hb=>hI b (h.imm b hb),h.facts.same fun b hb=>hs b (h.imm b hb)⟩
end Go.AE
