/-
  On the way to flowTells_card: part 3 of 11.
-/
import Derived.Tactics
import Derived.Test.YtojjkleplnijaaaGreatDoorPk2
set_option linter.unusedVariables false
set_option linter.unusedSimpArgs false
namespace Go.AE
section
variable {P:Program} {T:Tab} {w:World} {m:Mp} {K:List ABlk} {k:AV→List ABlk→Prop}
theorem part_val {t:Nat} {ti:TI} (hti:TIok P t ti) {cs:List AV} {A:Array Value} (hc:VL w m cs A) (off:Nat) (q:AV→Prop) (h:part ti cs off q) :
  ∃ u a,(Go.part t A off).run P w=.ok u w∧V w m a u∧q a:=by
 obtain⟨i,d,z,hi,hu,hsz,_,_,_,_,hagg,_⟩:=hti
 unfold part at h
 unfold Go.part
 simp only [Sem.run_bind,isAgg_run hu,Result.andThen_ok]
 rw [← hagg]
 have hl:=hc.1
 cases hA:ti.agg with
 | true =>
  rw [hA] at h
  simp only at h
  cases hb:Nat.ble (off+ti.size) (len cs) with
  | false=>rw [hb] at h;exact h.elim
  | true =>
   rw [hb] at h
   simp only [fVL_eq,takeN_eq,dropN_eq] at h
   have hle:off+ti.size≤cs.length:=by rw [len_eq] at hb;exact Nat.le_of_ble_eq_true hb
   refine⟨.agg (A.extract off (off+ti.size)),.agg ((cs.drop off).take ti.size),?_,?_,h⟩
   ·simp [sizeOf,typeInfo,hi,hsz]
   ·refine .agg _ _ (by simp;omega) fun j hj hj'=>?_
    have hj2:j<ti.size:=by simp at hj;omega
    have:=hc.2 (off+j) (by omega) (by omega)
    simpa using this
 | false =>
  rw [hA] at h
  simp only at h
  rw [nth_eq] at h
  cases hn:cs[off]? with
  | none=>rw [hn] at h;exact h.elim
  | some v =>
   rw [hn] at h
   simp only [fV_eq] at h
   obtain⟨hlt,rfl⟩:=List.getElem?_eq_some_iff.1 hn
   obtain⟨u,h1,h2⟩:=hc.get? off hlt
   refine⟨u,_,?_,h2,h⟩
   simp [h1]
theorem opField_ok (hT:TabOk P T) (hS:St w m (hp K)) {t:TypeId} {x:AV} {u:Value} (hx:V w m x u) {fi:Nat} (h:opField T K k t x fi):RunOk P w m (Instr.field t u fi) k:=by
 unfold opField at h
 cases hg:T.t.get t with
 | none=>rw [hg] at h;exact h.elim
 | some ti =>
  rw [hg] at h
  simp only at h
  obtain⟨i,d,z,hi0,hu,hsz,_,hut,_⟩:=hT.t t ti hg
  cases hU:ti.u with
  | struct fs =>
   rw [hU] at h hut
   simp only at h
   obtain⟨fields,rfl,hfs,hinf⟩:=hut
   cases hn:nth fs fi with
   | none=>rw [hn] at h;exact h.elim
   | some o =>
    obtain⟨fo,ft⟩:=o
    rw [hn] at h
    simp only at h
    cases hg':T.t.get ft with
    | none=>rw [hg'] at h;exact h.elim
    | some fti =>
     rw [hg'] at h
     simp only at h
     rw [nth_eq,← hfs] at hn
     simp only [List.getElem?_map,Array.getElem?_toList] at hn
     cases hff:fields[fi]? with
     | none=>rw [hff] at hn;simp at hn
     | some f =>
      rw [hff] at hn
      simp only [Option.map_some,Option.some.injEq,Prod.mk.injEq] at hn
      obtain⟨ho,hft⟩:=hn
      cases hx with
      | agg cs A hA hv =>
       obtain⟨u,a,h1,h2,h3⟩:=part_val (P:=P) (hT.t ft fti hg') ⟨hA,hv⟩ fo _ h
       refine RunOk.same hS (u:=u) ?_ h2 h3
       simp [Instr.field,run_underlying hu,hff,asAgg,hft,ho,h1]
      | _=>exact h.elim
  | _=>rw [hU] at h;exact h.elim
theorem opIndexAddr_ok (hT:TabOk P T) (hS:St w m (hp K)) {t:TypeId} {x y:AV} {u v:Value} (hx:V w m x u) (hy:V w m y v) (h:opIndexAddr T K k t x y):RunOk P w m (Instr.indexAt t u v) k:=by
 unfold opIndexAddr at h
 cases hg:T.t.get t with
 | none=>rw [hg] at h;exact h.elim
 | some ti =>
  rw [hg] at h
  simp only at h
  obtain⟨i,d,z,hi0,hu,hsz,_,hut,_⟩:=hT.t t ti hg
  cases hU:ti.u with
  | slice e =>
   rw [hU] at h hut
   simp only [utOk] at hut
   subst hut
   simp only at h
   cases hge:T.t.get e with
   | none=>rw [hge] at h;exact h.elim
   | some ei =>
    rw [hge] at h
    simp only at h
    obtain⟨i',d',z',hie,hu',hsz',_⟩:=hT.t e ei hge
    cases hy with
    | p y v hy =>
     cases hy with
     | int q ix =>
      simp only at h
      cases hx with
      | p x u hx =>
       cases hx with
       | sl sz n f b o c uu hI hcap hc hv =>
        simp only at h
        obtain⟨⟨h0,h1,h2⟩,h⟩:=h
        simp only [fL_eq] at h
        refine RunOk.same hS (u:=.pointer (some ⟨b,o+ix.toNat*sz,none⟩)) ?_ ?_ h
        ·simp [Instr.indexAt,asIntOf,run_underlying hu,h0,h1,sizeOf,typeInfo,hie,hsz',h2,addr_add]
        ·refine .rop (f ix.toNat) 0 b (o+ix.toNat*sz) (uu ix.toNat) hI (fun j hj=>?_) (fun j hj=>hv ix.toNat (by omega) j hj)
         have:=hc ix.toNat (by omega) j hj
         rw [← this,Nat.add_assoc]
       | sl0 =>
        simp only at h
        obtain⟨⟨h0,h1,h2⟩,h⟩:=h
        omega
       | _=>exact h.elim
      | slr r ver off n N sz cap hL hn =>
       simp only at h
       cases hn':nth K r with
       | none=>rw [hn'] at h;exact h.elim
       | some b =>
        rw [hn'] at h
        have hb:=hS.blk r
        rw [hp_nth hn'] at hb
        cases b with
        | arr et sz' ver' n' f =>
         simp only at h
         obtain⟨⟨rfl,hnn,h0,h1,h3⟩,h⟩:=h
         rcases hb with ⟨hb,_⟩|⟨cap',c,hl',hcap,hmax,h2,h4,h5⟩
         ·rw [hL] at hb;simp at hb
         rw [hL] at hl'
         injection hl' with _ e2 e3 e4
         subst e2 e3 e4
         refine RunOk.same hS (u:=.pointer (some ⟨m.ρ r,(off+ix.toNat)*sz+0,none⟩)) ?_ (.ptr r ver N (off+ix.toNat) 0 sz cap hL (by omega)) h
         simp [Instr.indexAt,asIntOf,run_underlying hu,h0,h1,sizeOf,typeInfo,hie,hsz',h3,addr_add,Nat.add_mul]
        | _=>exact h.elim
      | slrNil r ver hL =>
       exfalso
       simp only at h
       cases hn':nth K r with
       | none=>rw [hn'] at h;exact h.elim
       | some b =>
        rw [hn'] at h
        cases b with
        | arr et sz' ver' n' f =>
         obtain⟨⟨_,_,h0,h1,_⟩,h⟩:=h
         omega
        | _=>exact h.elim
      | slrOld r ver off n ad' c' hold =>
       exfalso
       simp only at h
       cases hn':nth K r with
       | none=>rw [hn'] at h;exact h.elim
       | some b =>
        rw [hn'] at h
        have hb:=hS.blk r
        rw [hp_nth hn'] at hb
        cases b with
        | arr et sz' ver' n' f =>
         simp only at h
         obtain⟨⟨rfl,rfl,_⟩,h⟩:=h
         rcases hb with ⟨hl',_⟩|⟨cap',c,hl',_⟩
         ·rw [hl'] at hold;simp [Inf.old] at hold
         rw [hl'] at hold
         simp [Inf.old] at hold
        | _=>exact h.elim
      | _=>exact h.elim
     | _=>exact h.elim
    | _=>exact h.elim
  | _=>rw [hU] at h;exact h.elim
theorem opIndex_ok (hT:TabOk P T) (hS:St w m (hp K)) {t:TypeId} {x y:AV} {u v:Value} (hx:V w m x u) (hy:V w m y v) (h:opIndex T K k t x y):RunOk P w m (Instr.index t u v) k:=by
 unfold opIndex at h
 cases hg:T.t.get t with
 | none=>rw [hg] at h;exact h.elim
 | some ti =>
  rw [hg] at h
  simp only at h
  obtain⟨i,d,z,hi0,hu,hsz,_,hut,_⟩:=hT.t t ti hg
  cases hy with
  | p y v hy =>
   cases hy with
   | int q ix =>
    simp only at h
    cases hU:ti.u with
    | string =>
     rw [hU] at h hut
     simp only [utOk] at hut
     subst hut
     simp only at h
     cases hx with
     | p x u hx =>
      cases hx with
      | str s l hl =>
       subst hl
       obtain⟨⟨h0,h1⟩,h⟩:=h
       simp only [Array.length_toList] at h1
       have hlt:ix.toNat<s.size:=by have:s.data.size=s.size:=rfl;omega
       refine RunOk.same hS (u:=.int .u8 (byteAt s.data.toList ix.toNat)) ?_ (kInt ..) h
       have e:s[ix.toNat]?=some (s[ix.toNat]'hlt):=getElem?_pos s ix.toNat hlt
       have e2:s.data.toList.getD ix.toNat 0=s[ix.toNat]'hlt:=by
        rw [List.getD_eq_getElem?_getD,List.getElem?_eq_getElem (by simpa using hlt)]
        simp only [Option.getD_some,Array.getElem_toList]
        rfl
       simp only [Instr.index,asIntOf,Sem.run_bind,Sem.run_pure,Result.andThen_ok,run_underlying hu,h0,if_true,e,byteAt,e2]
      | _=>exact h.elim
     | _=>exact h.elim
    | _=>rw [hU] at h;exact h.elim
   | _=>exact h.elim
  | _=>exact h.elim
theorem opExtract_ok (hS:St w m (hp K)) {x:AV} {u:Value} (hx:V w m x u) {i:Nat} (h:opExtract K k x i):RunOk P w m (Instr.extract u i) k:=by
 cases hx with
 | tup cs A hA hv =>
  simp only [opExtract,nth_eq] at h
  cases hn:cs[i]? with
  | none=>rw [hn] at h;exact h.elim
  | some v =>
   rw [hn] at h
   simp only [fV_eq] at h
   obtain⟨hlt,rfl⟩:=List.getElem?_eq_some_iff.1 hn
   obtain⟨u,h1,h2⟩:=VL.get? ⟨hA,hv⟩ i hlt
   exact RunOk.same hS (u:=u) (by simp [Instr.extract,h1]) h2 h
 | _=>exact h.elim
def NewsOk (w:World) (m:Mp) (sz:Nat) (u:Value) (n:Nat) (g:Nat→List AV):Prop :=
 ∃ (a:Option Addr) (c:Nat) (nl:List Value),u=.slice a n c∧nl.length=n*sz∧(∀ j y,nl[j]?=some y→∃ ad,a=some ad∧w.cell? (ad.add j)=some y)∧(∀ y∈nl,y.oneCell'=true) ∧
  ∀ i,i<n→(g i).length=sz∧∀ j (hj:j<(g i).length),∃ y,nl[i*sz+j]?=some y∧V w m (g i)[j] y
theorem NewsOk.mk' {sz:Nat} (hsz:0<sz) (b o n c:Nat) (g:Nat→List AV)
  (h:∀ i,i<n→(g i).length=sz∧∀ j (hj:j<(g i).length),∃ y,w.cell? ⟨b,o+(i*sz+j),none⟩=some y∧V w m (g i)[j] y∧y.oneCell'=true):NewsOk w m sz (.slice (some ⟨b,o,none⟩) n c) n g:=by
 have key:∀ q,q<n*sz→∃ y,w.cell? ⟨b,o+q,none⟩=some y∧y.oneCell'=true:=by
  intro q hq
  have h1:q / sz<n:=(Nat.div_lt_iff_lt_mul hsz).2 hq
  have h2:q % sz<sz:=Nat.mod_lt _ hsz
  obtain⟨y,hy1,_,hy3⟩:=(h (q / sz) h1).2 (q % sz) (by rw [(h _ h1).1];exact h2)
  refine⟨y,?_,hy3⟩
  rw [← hy1]
  congr 2
  have:=Nat.div_add_mod q sz
  rw [Nat.mul_comm] at this
  omega
 refine⟨_,c,(List.range (n*sz)).map fun q=>(w.cell? ⟨b,o+q,none⟩).getD undef,rfl,by simp,fun j y hy=>?_,fun y hy=>?_,fun i hi=>⟨(h i hi).1,fun j hj=>?_⟩⟩
 ·have hj:j<n*sz:=by have:=(List.getElem?_eq_some_iff.1 hy).1;simpa using this
  obtain⟨y',h1,_⟩:=key j hj
  simp [hj,h1] at hy
  subst hy
  exact⟨_,rfl,by rw [addr_add];exact h1⟩
 ·simp only [List.mem_map,List.mem_range] at hy
  obtain⟨q,hq,rfl⟩:=hy
  obtain⟨y',h1,h2⟩:=key q hq
  simpa [h1] using h2
 ·have hroom:(i+1)*sz≤n*sz:=Nat.mul_le_mul_right _ (by omega)
  rw [Nat.add_mul,Nat.one_mul] at hroom
  obtain⟨y,hy1,hy2,_⟩:=(h i hi).2 j hj
  rw [(h i hi).1] at hj
  exact⟨y,by simp [show i*sz+j<n*sz by omega,hy1],hy2⟩
theorem news_ok (hS:St w m (hp K)) {sz:Nat} (hsz:0<sz) {x:AV} {u:Value} (hx:V w m x u) {q:Nat→(Nat→List AV)→Prop} (h:news K sz x q):∃ n g,NewsOk w m sz u n g∧q n g:=by
 unfold news at h
 cases hx with
 | p x u hx =>
  cases hx with
  | nils=>exact⟨0,_,⟨none,0,[],rfl,by simp,by simp,by simp,fun i hi=>by omega⟩,h⟩
  | sl0 sz' f a c=>exact⟨0,_,⟨a,c,[],rfl,by simp,by simp,by simp,fun i hi=>by omega⟩,h.k⟩
  | sl sz' n f b o c uu hI hcap hc hv =>
   obtain⟨⟨rfl,hl⟩,h⟩:=h
   refine⟨n,_,NewsOk.mk' hsz b o n c _ (fun i hi=>⟨by rw [pvs_len];exact hl i hi,fun j hj=>?_⟩),h⟩
   have hj':j<(f i).length:=by rw [pvs_len] at hj;exact hj
   exact⟨uu i j,hc i hi j hj',by rw [pvs_get];exact .p _ _ (hv i hi j hj'),(hv i hi j hj').one⟩
  | _=>exact h.elim
 | slr r ver off n N sz' cap hL hn =>
  simp only at h
  cases hn':nth K r with
  | none=>rw [hn'] at h;exact h.elim
  | some b =>
   rw [hn'] at h
   have hb:=hS.blk r
   rw [hp_nth hn'] at hb
   cases b with
   | arr et sz2 ver' n' f =>
    simp only at h
    obtain⟨⟨rfl,hnn,rfl,hones⟩,h⟩:=h
    rcases hb with ⟨hb,_⟩|⟨cap',c,hl',hcap,hmax,h2,h4,h5⟩
    ·rw [hL] at hb;simp at hb
    rw [hL] at hl'
    injection hl' with _ e2 e3 e4
    subst e2 e3 e4
    refine⟨n,_,NewsOk.mk' hsz (m.ρ r) (off*sz') n _ _ (fun i hi=>⟨(h5 (i+off) (by omega)).1,fun j hj=>?_⟩),h⟩
    obtain⟨y,hy1,hy2⟩:=(h5 (i+off) (by omega)).2 j hj
    refine⟨y,?_,hy2,hy2.one (ones_get (hones _ (by omega)) j hj)⟩
    rw [cell_of_row w _ _ c et (0,0) h2,← hy1,Nat.add_mul]
    congr 1
    omega
   | _=>exact h.elim
 | slrNil r ver hL =>
  simp only at h
  cases hn':nth K r with
  | none=>rw [hn'] at h;exact h.elim
  | some b =>
   rw [hn'] at h
   cases b with
   | arr et sz' ver' n' f=>exact⟨0,_,⟨none,0,[],rfl,by simp,by simp,by simp,fun i hi=>by omega⟩,h.k⟩
   | _=>exact h.elim
 | slrOld r ver off n ad' c' hold =>
  exfalso
  simp only at h
  cases hn':nth K r with
  | none=>rw [hn'] at h;exact h.elim
  | some b =>
   rw [hn'] at h
   have hb:=hS.blk r
   rw [hp_nth hn'] at hb
   cases b with
   | arr et sz' ver' n' f =>
    simp only at h
    obtain⟨⟨rfl,rfl,_⟩,h⟩:=h
    rcases hb with ⟨hl',_⟩|⟨cap',c,hl',_⟩
    ·rw [hl'] at hold;simp [Inf.old] at hold
    rw [hl'] at hold
    simp [Inf.old] at hold
   | _=>exact h.elim
 | _=>exact h.elim
theorem append_none {t tx ty e:TypeId} {i:TypeInfo} (ht:P.underlying t=some (.slice e)) (hi:P.info? e=some i) (base:Option Addr) (sLen sCap:Nat) (hle:sLen≤sCap) {e':TypeId} (htx:P.underlying tx=some (.slice e')) (a:Option Addr) (c:Nat) :
  (Builtin.append_ #[t,tx] ty #[.slice base sLen sCap,.slice a 0 c]).run P w=.ok (.slice base sLen sCap) w:=by
 cases base<;>cases a<;>simp [Builtin.append_,run_underlying ht,run_underlying htx,sizeOf,typeInfo,hi,Builtin.lenOf,hle,Builtin.firstCells,loadCells,loadCellsFrom,storeCells]
theorem catF_lt {n:Nat} {f g:Nat→List AV} {i:Nat} (h:i<n):catF n f g i=f i:=by
 unfold catF
 have:Nat.blt i n=true:=by simpa using h
 rw [this]
theorem catF_ge {n:Nat} {f g:Nat→List AV} {i:Nat} (h:n≤i):catF n f g i=g (i - n):=by
 unfold catF
 have:Nat.blt i n=false:=by cases e:Nat.blt i n with
  | true=>have:=Nat.le_of_ble_eq_true e;omega
  | false=>rfl
 rw [this]
theorem opAppend_ok (hT:TabOk P T) (hS:St w m (hp K)) {t:TypeId} {s x:AV} {u v:Value} (hs:V w m s u) (hx:V w m x v) {ty:TypeId} (h:opAppend T K k t s x):RunOk P w m (Builtin.append_ #[t,t] ty #[u,v]) k:=by
 unfold opAppend at h
 cases hg:T.t.get t with
 | none=>rw [hg] at h;exact h.elim
 | some ti =>
  rw [hg] at h
  simp only at h
  obtain⟨i,d,z,hi0,hu,hsz,_,hut,_⟩:=hT.t t ti hg
  cases hU:ti.u with
  | slice e =>
   rw [hU] at h hut
   simp only [utOk] at hut
   subst hut
   simp only at h
   cases hge:T.t.get e with
   | none=>rw [hge] at h;exact h.elim
   | some ei =>
    rw [hge] at h
    simp only at h
    obtain⟨i',d',z',hie,hu',hsz',hby',_,hz',hzo',_⟩:=hT.t e ei hge
    split at h
    case h_2=>exact h.elim
    rename_i hb2 hb3
    have hne:ei.size≠0:=by intro h0;rw [h0] at hb2;simp at hb2
    have hzl:ei.zero.length=ei.size:=by have:=Nat.eq_of_beq_eq_true hb3;rwa [len_eq] at this
    have hzs:z'.cells.size=ei.size:=by rw [← hzo'.1];exact hzl
    obtain⟨nm,g,hnews,h⟩:=news_ok hS (by omega) hx h
    obtain⟨a,c,nl,rfl,hnl,hcells,hone,hg⟩:=hnews
    cases hs with
    | p s u hs =>
     cases hs with
     | nils =>
      simp only at h
      cases nm with
      | zero =>
       simp only at h
       exact RunOk.same hS (append_none hu hie none 0 0 (Nat.le_refl _) hu a c) (.p _ _ .nils) h
      | succ nm =>
       simp only at h
       obtain⟨⟨hby,h63⟩,h⟩:=h
       simp only [fL_eq] at h
       have hpos:0<nl.length:=by rw [hnl];exact Nat.mul_pos (by omega) (by omega)
       obtain⟨ad,rfl,_⟩:=hcells 0 nl[0] (List.getElem?_eq_getElem hpos)
       obtain⟨v',w',hr,hown,hgrow,hnil,hat⟩:=run_append_own_at (P:=P) w 0 t ty e i' z' ei.size ei.bytes hu hie hz' hsz' hby' hzs (by omega) (.slice none 0 0) 0 [] (World.ownsRow_nil w 0 e ei.size)
        ad (nm+1) c nl hnl (fun j y hy=>by obtain⟨_,e1,e2⟩:=hcells j y hy;injection e1 with e1;rw [e1];exact e2) hone (by simp only [maxLen];omega) (by rw [Nat.zero_add];exact hby) (Nat.zero_le _)
       simp only [Nat.zero_add,List.nil_append] at hown
       rcases hown.2 with ⟨_,h0⟩|⟨gb,cap,cur,rfl,_,hgh,hncap,hcapm,hcs,htake⟩
       ·omega
       ·rcases hat with hat|hat
        ·simp [Value.ownBlock] at hat
        ·simp [Value.ownBlock] at hat
         subst hat
         have hlt:w.heap.size<w'.heap.size:=(Array.getElem?_eq_some_iff.1 hgh).1
         have hgr:w.grownBy w' none:=by simpa [Value.ownBlock] using hgrow
         have hst:(m.L (len K)).step (.live 0 (nm+1) ei.size cap) False:=by rw [hS.absent (hp_len K)];trivial
         have hTr:=Tr.fresh hS (len K) w.heap.size (.live 0 (nm+1) ei.size cap) hst hgr (Nat.le_refl _)
         refine⟨_,w',_,_,_,hr,hTr,?_,?_,h⟩
         ·rw [hp_snoc]
          refine hS.fresh _ _ _ hst hgr (Nat.le_refl _) hlt _ (.inr ⟨cap,cur,rfl,hncap,hcapm,hgh,hcs,fun q hq=>⟨(hg q hq).1,fun j hj=>?_⟩⟩)
          obtain⟨y,hy1,hy2⟩:=(hg q hq).2 j hj
          refine⟨y,?_,hy2.mono hTr⟩
          rw [← htake,List.getElem?_take] at hy1
          split at hy1
          ·simpa using hy1
          ·simp at hy1
         ·have:=V.slr (w:=w') (m:=m.set (len K) w.heap.size (.live 0 (nm+1) ei.size cap)) (len K) 0 0 (nm+1) (nm+1) ei.size cap (by simp [Mp.set]) (by omega)
          simpa [Mp.set] using this
     | _=>exact h.elim
    | slr r ver off n N sz cap hL hn =>
     simp only at h
     cases off with
     | succ _=>exact h.elim
     | zero =>
      simp only at h
      cases hn':nth K r with
      | none=>rw [hn'] at h;exact h.elim
      | some b =>
       rw [hn'] at h
       have hb:=hS.blk r
       rw [hp_nth hn'] at hb
       have hlive:(m.L r).isLive:=by rw [hL];trivial
       cases b with
       | arr et sz2 ver' n' f =>
        simp only at h
        obtain⟨⟨rfl,rfl,rfl,rfl,hby,h63⟩,h⟩:=h
        simp only [fL_eq] at h
        rcases hb with ⟨hb,_⟩|⟨cap',cc,hl',hcap,hmax,h2,h4,h5⟩
        ·rw [hL] at hb;simp at hb
        obtain rfl:n=N:=by omega
        have hl2:=hl'
        rw [hL] at hl2
        injection hl2 with _ _ e3 e4
        subst e3 e4
        simp only [Nat.zero_mul,Nat.sub_zero]
        by_cases hm0:nm=0
        ·subst hm0
         refine⟨_,w,m,_,_,append_none hu hie _ _ _ hcap hu a c,Tr.refl w m,?_,?_,h⟩
         ·rw [hp_set K r _ _ hn']
          refine⟨hS.inj,hS.notI,hS.lt,hS.Ilt,hS.gl,fun q=>?_⟩
          by_cases e:q=r
          ·subst e
           simp only [upd,if_true]
           refine .inr ⟨cap,cc,hL,by omega,hmax,h2,h4,fun j hj=>?_⟩
           rw [catF_lt (by omega)]
           exact h5 j (by omega)
          ·simp only [upd,e,if_false];exact hS.blk q
         ·have:=V.slr (w:=w) r ver 0 n n ei.size cap hL (by omega)
          simpa using this
        ·have hpos:0<nl.length:=by rw [hnl];exact Nat.mul_pos (by omega) (by omega)
         obtain⟨ad,rfl,_⟩:=hcells 0 nl[0] (List.getElem?_eq_getElem hpos)
         have hnc:n*ei.size≤cap*ei.size:=Nat.mul_le_mul_right _ hcap
         have hown0:w.ownsRow 0 et ei.size (.slice (some ⟨m.ρ r,0,none⟩) n cap) n (cc.toList.take (n*ei.size)) :=
          ⟨by simp;omega,.inr ⟨m.ρ r,cap,cc,rfl,Nat.zero_le _,h2,hcap,hmax,h4,rfl⟩⟩
         obtain⟨v',w',hr,hown,hgrow,hnil,hat⟩:=run_append_own_at (P:=P) w 0 t ty et i' z' ei.size ei.bytes hu hie hz' hsz' hby' hzs (by omega) _ n _ hown0
          ad nm c nl hnl (fun j y hy=>by obtain⟨_,e1,e2⟩:=hcells j y hy;injection e1 with e1;rw [e1];exact e2) hone (by simp only [maxLen];omega) (by omega) (Nat.zero_le _)
         rcases hown.2 with ⟨_,h0⟩|⟨gb,cap2,cur,rfl,_,hgh,hncap,hcapm,hcs,htake⟩
         ·omega
         ·have hgr:w.grownBy w' (some (m.ρ r)):=by simpa [Value.ownBlock] using hgrow
          have hgb:gb=m.ρ r∨w.heap.size≤gb:=by
           rcases hat with hat|hat
           ·simp [Value.ownBlock] at hat;exact .inl hat
           ·simp [Value.ownBlock] at hat;exact .inr (by omega)
          have hstep:(m.L r).step (.live ver (n+nm) ei.size cap2) (gb=m.ρ r):=by
           rw [hL]
           exact .inr (.inr ⟨_,_,_,_,rfl,by omega⟩)
          have hlt:gb<w'.heap.size:=(Array.getElem?_eq_some_iff.1 hgh).1
          have hTr:=Tr.grow hS r gb (.live ver (n+nm) ei.size cap2) hlive hgr hstep hgb
          refine⟨_,w',_,_,_,hr,hTr,?_,?_,h⟩
          ·rw [hp_set K r _ _ hn']
           refine hS.grow r gb _ hlive hgr hstep hgb hlt _ (.inr ⟨cap2,cur,rfl,hncap,hcapm,hgh,hcs,fun q hq=>?_⟩)
           have hroom:(q+1)*ei.size≤(n+nm)*ei.size:=Nat.mul_le_mul_right _ (by omega)
           rw [Nat.add_mul,Nat.one_mul] at hroom
           have hcell:∀ j y,j<ei.size→(cc.toList.take (n*ei.size)++nl)[q*ei.size+j]?=some y→cur[q*ei.size+j]?=some y:=by
            intro j y hj hy
            rw [← htake,List.getElem?_take,if_pos (by omega)] at hy
            simpa using hy
           have hlen0:(cc.toList.take (n*ei.size)).length=n*ei.size:=by simp;omega
           by_cases hqn:q<n
           ·have hroom2:(q+1)*ei.size≤n*ei.size:=Nat.mul_le_mul_right _ (by omega)
            rw [Nat.add_mul,Nat.one_mul] at hroom2
            rw [catF_lt hqn]
            refine⟨(h5 q hqn).1,fun j hj=>?_⟩
            have hj':j<ei.size:=by rw [(h5 q hqn).1] at hj;exact hj
            obtain⟨y,hy1,hy2⟩:=(h5 q hqn).2 j hj
            refine⟨y,hcell j y hj' ?_,hy2.mono hTr⟩
            rw [List.getElem?_append_left (by omega),List.getElem?_take,if_pos (by omega)]
            simpa using hy1
           ·rw [catF_ge (by omega)]
            have hg':=hg (q - n) (by omega)
            refine⟨hg'.1,fun j hj=>?_⟩
            have hj':j<ei.size:=by rw [hg'.1] at hj;exact hj
            obtain⟨y,hy1,hy2⟩:=hg'.2 j hj
            refine⟨y,hcell j y hj' ?_,hy2.mono hTr⟩
            have hmul:q*ei.size=n*ei.size+(q - n)*ei.size:=by rw [← Nat.add_mul];congr 1;omega
            rw [List.getElem?_append_right (by omega),hlen0,show q*ei.size+j - n*ei.size=(q - n)*ei.size+j by omega]
            exact hy1
          ·have:=V.slr (w:=w') (m:=m.set r gb (.live ver (n+nm) ei.size cap2)) r ver 0 (n+nm) (n+nm) ei.size cap2 (by simp [Mp.set]) (by omega)
           simpa [Mp.set] using this
       | _=>exact h.elim
    | slrNil r ver hL =>
     simp only at h
     cases hn':nth K r with
     | none=>rw [hn'] at h;exact h.elim
     | some b =>
      rw [hn'] at h
      have hb:=hS.blk r
      rw [hp_nth hn'] at hb
      cases b with
      | arr et sz2 ver' n' f =>
       simp only at h
       obtain⟨⟨rfl,rfl,rfl,rfl,hby,h63⟩,h⟩:=h
       simp only [fL_eq,Nat.zero_add] at h hby h63
       by_cases hm0:nm=0
       ·subst hm0
        refine⟨_,w,m,_,_,append_none hu hie none 0 0 (Nat.le_refl _) hu a c,Tr.refl w m,?_,.slrNil r ver hL,h⟩
        rw [hp_set K r _ _ hn']
        refine⟨hS.inj,hS.notI,hS.lt,hS.Ilt,hS.gl,fun q=>?_⟩
        by_cases e:q=r
        ·subst e
         simp only [upd,if_true]
         exact .inl ⟨hL,rfl⟩
        ·simp only [upd,e,if_false];exact hS.blk q
       ·have hpos:0<nl.length:=by rw [hnl];exact Nat.mul_pos (by omega) (by omega)
        obtain⟨ad,rfl,_⟩:=hcells 0 nl[0] (List.getElem?_eq_getElem hpos)
        obtain⟨v',w',hr,hown,hgrow,hnil,hat⟩:=run_append_own_at (P:=P) w 0 t ty et i' z' ei.size ei.bytes hu hie hz' hsz' hby' hzs (by omega) (.slice none 0 0) 0 [] (World.ownsRow_nil w 0 et ei.size)
         ad nm c nl hnl (fun j y hy=>by obtain⟨_,e1,e2⟩:=hcells j y hy;injection e1 with e1;rw [e1];exact e2) hone (by simp only [maxLen];omega) (by rw [Nat.zero_add];exact hby) (Nat.zero_le _)
        simp only [Nat.zero_add,List.nil_append] at hown
        rcases hown.2 with ⟨_,h0⟩|⟨gb,cap,cur,rfl,_,hgh,hncap,hcapm,hcs,htake⟩
        ·omega
        ·rcases hat with hat|hat
         ·simp [Value.ownBlock] at hat
         ·simp [Value.ownBlock] at hat
          subst hat
          have hlt:w.heap.size<w'.heap.size:=(Array.getElem?_eq_some_iff.1 hgh).1
          have hgr:w.grownBy w' none:=by simpa [Value.ownBlock] using hgrow
          have hst:(m.L r).step (.live ver nm ei.size cap) False:=by
           rw [hL]
           exact .inr (.inr ⟨_,_,_,_,rfl,by omega⟩)
          have hTr:=Tr.fresh hS r w.heap.size (.live ver nm ei.size cap) hst hgr (Nat.le_refl _)
          refine⟨_,w',_,_,_,hr,hTr,?_,?_,h⟩
          ·rw [hp_set K r _ _ hn']
           refine hS.fresh _ _ _ hst hgr (Nat.le_refl _) hlt _ (.inr ⟨cap,cur,rfl,hncap,hcapm,hgh,hcs,fun q hq=>?_⟩)
           rw [catF_ge (by omega),Nat.sub_zero]
           refine⟨(hg q hq).1,fun j hj=>?_⟩
           obtain⟨y,hy1,hy2⟩:=(hg q hq).2 j hj
           refine⟨y,?_,hy2.mono hTr⟩
           rw [← htake,List.getElem?_take] at hy1
           split at hy1
           ·simpa using hy1
           ·simp at hy1
          ·have:=V.slr (w:=w') (m:=m.set r w.heap.size (.live ver nm ei.size cap)) r ver 0 nm nm ei.size cap (by simp [Mp.set]) (by omega)
           simpa [Mp.set] using this
      | _=>exact h.elim
    | slrOld r ver off n ad' c' hold =>
     exfalso
     simp only at h
     cases off with
     | succ _=>exact h.elim
     | zero =>
      simp only at h
      cases hn':nth K r with
      | none=>rw [hn'] at h;exact h.elim
      | some b =>
       rw [hn'] at h
       have hb:=hS.blk r
       rw [hp_nth hn'] at hb
       cases b with
       | arr et sz' ver' n' f =>
        simp only at h
        obtain⟨⟨rfl,rfl,_⟩,h⟩:=h
        rcases hb with ⟨hl',_⟩|⟨cap',c,hl',_⟩
        ·rw [hl'] at hold;simp [Inf.old] at hold
        rw [hl'] at hold
        simp [Inf.old] at hold
       | _=>exact h.elim
    | _=>exact h.elim
  | _=>rw [hU] at h;exact h.elim
theorem opMaxMin_max (hS:St w m (hp K)) {x y:AV} {u v:Value} (hx:V w m x u) (hy:V w m y v) {ts:Array TypeId} {ty:TypeId} (h:opMaxMin K k true x y):RunOk P w m (Builtin.max_ ts ty #[u,v]) k:=by
 cases hx with
 | p x u hx =>
  cases hx with
  | int q a =>
   cases hy with
   | p y v hy =>
    cases hy with
    | int q' b=>exact RunOk.same hS (by simp [Builtin.max_,Builtin.max2]) (kInt ..) h
    | _=>exact h.elim
   | _=>exact h.elim
  | _=>exact h.elim
 | _=>exact h.elim
theorem opMaxMin_min (hS:St w m (hp K)) {x y:AV} {u v:Value} (hx:V w m x u) (hy:V w m y v) {ts:Array TypeId} {ty:TypeId} (h:opMaxMin K k false x y):RunOk P w m (Builtin.min_ ts ty #[u,v]) k:=by
 cases hx with
 | p x u hx =>
  cases hx with
  | int q a =>
   cases hy with
   | p y v hy =>
    cases hy with
    | int q' b=>exact RunOk.same hS (by simp [Builtin.min_,Builtin.min2]) (kInt ..) h
    | _=>exact h.elim
   | _=>exact h.elim
  | _=>exact h.elim
 | _=>exact h.elim
theorem opLen_ok (hT:TabOk P T) (hS:St w m (hp K)) {t:TypeId} {x:AV} {u:Value} (hx:V w m x u) {ty:TypeId} (h:opLen T K k t x):RunOk P w m (Builtin.len_ #[t] ty #[u]) k:=by
 unfold opLen at h
 cases hg:T.t.get t with
 | none=>rw [hg] at h;exact h.elim
 | some ti =>
  rw [hg] at h
  simp only at h
  obtain⟨i,d,z,hi0,hu,hsz,_,hut,_⟩:=hT.t t ti hg
  cases hU:ti.u with
  | string =>
   rw [hU] at h hut
   simp only [utOk] at hut
   subst hut
   cases hx with
   | p x u hx =>
    cases hx with
    | str s l hl =>
     subst hl
     simp only [Array.length_toList] at h
     exact RunOk.same hS (u:=.int .i64 (s.data.size:Int)) (by simp only [Builtin.len_,List.getElem?_toArray,List.getElem?_cons_zero,Sem.run_bind,run_underlying hu,Result.andThen_ok,Sem.run_pure];rfl) (kInt ..) h
    | _=>exact h.elim
   | _=>exact h.elim
  | slice e =>
   rw [hU] at h hut
   simp only [utOk] at hut
   subst hut
   have hr:∀ (a:Option Addr) (n c:Nat),(Builtin.len_ #[t] ty #[.slice a n c]).run P w=.ok (.int .i64 (n:Int)) w:=by
    intro a n c
    simp only [Builtin.len_,List.getElem?_toArray,List.getElem?_cons_zero,Sem.run_bind,run_underlying hu,Result.andThen_ok,Sem.run_pure]
    rfl
   cases hx with
   | p x u hx =>
    cases hx with
    | nils=>exact RunOk.same hS (hr none 0 0) (kInt ..) h
    | sl0=>exact RunOk.same hS (hr _ _ _) (kInt ..) h
    | sl=>exact RunOk.same hS (hr _ _ _) (kInt ..) h
    | _=>exact h.elim
   | slr=>exact RunOk.same hS (hr _ _ _) (kInt ..) h
   | slrNil=>exact RunOk.same hS (hr _ _ _) (kInt ..) h
   | slrOld=>exact RunOk.same hS (hr _ _ _) (kInt ..) h
   | _=>exact h.elim
  | _=>rw [hU] at h;exact h.elim
theorem zeroV_ok {ty:Nat} {ti:TI} (hti:TIok P ty ti) {q:AV→Prop} (h:zeroV ti q):∃ z v,(zeroValue ty).run P w=.ok z w∧V w m v z∧q v:=by
 obtain⟨i,d,z,hi,hu,_,_,_,hz,hzo,_,ha⟩:=hti
 have hr:(zeroValue ty).run P w=.ok z w:=by simp [zeroValue,typeInfo,hi,hz]
 have hV:=pvs_VL hzo w m
 unfold zeroV at h
 cases hg:ti.agg with
 | true =>
  rw [hg] at h ha
  simp only [fVL_eq] at h
  cases z with
  | agg A=>exact⟨_,_,hr,.agg _ _ hV.1 hV.2,h⟩
  | _=>simp [zAgg] at ha
 | false =>
  rw [hg] at h ha
  simp only at h
  split at h
  case h_2=>exact h.elim
  rename_i x hx
  rw [fV_eq] at h
  have hc:z.cells=#[z]:=by cases z<;>first|rfl|simp [zAgg] at ha
  rw [hx,hc] at hV
  exact⟨_,_,hr,hV.2 0 (by simp [pvs]) (by simp),h⟩
theorem opAssert_ok (hT:TabOk P T) (hS:St w m (hp K)) {xt ty:Nat} {ok:Bool} {x:AV} {u:Value} (hx:V w m x u) (h:opAssert T K k ty ok x):RunOk P w m (Instr.typeAssert u xt ty ok) k:=by
 unfold opAssert at h
 cases ok with
 | false=>exact h.elim
 | true =>
  simp only at h
  cases hg:T.t.get ty with
  | none=>rw [hg] at h;exact h.elim
  | some ti =>
   rw [hg] at h
   simp only at h
   have hti:=hT.t ty ti hg
   cases hpl:ti.u.plain with
   | false=>rw [hpl] at h;exact h.elim
   | true =>
    rw [hpl] at h
    simp only at h
    have hud:∃ d,(underlying ty).run P w=.ok d w∧∀ l,d≠.interface l:=by
     obtain⟨i,d,z,hi,hu,_,_,hut,_⟩:=hti
     refine⟨d,run_underlying hu w,fun l e=>?_⟩
     subst e
     cases hU:ti.u<;>rw [hU] at hut hpl<;>simp [utOk,UT.plain] at hut hpl
    obtain⟨d,hd,hdi⟩:=hud
    have fails:∀ (xx:Value),(xx=.nilIface∨∃ t v,xx=.iface t v∧t≠ty)→zeroV ti (fun z=>k (.tup [z,.p (.bool false)]) K)→RunOk P w m (Instr.typeAssert xx xt ty true) k:=by
     intro xx hxx hz
     obtain⟨z,v,hr,hv,hk⟩:=zeroV_ok (w:=w) (m:=m) hti hz
     refine RunOk.same hS (u:=.tuple #[z,.bool false]) ?_ (.tup _ _ rfl fun j hj hj'=>?_) hk
     ·rcases hxx with rfl|⟨t,v,rfl,hne⟩
      ·unfold Instr.typeAssert
       simp only [Sem.run_bind,hd,Result.andThen_ok]
       cases d<;>first|(exact absurd rfl (hdi _))|simp [hr]
      ·unfold Instr.typeAssert
       simp only [Sem.run_bind,hd,Result.andThen_ok]
       cases d<;>first|(exact absurd rfl (hdi _))|simp [hr,hne]
     ·match j,hj with
      | 0,_=>exact hv
      | 1,_=>exact .p _ _ (.bool false)
    cases hx with
    | p v u hv =>
     cases hv with
     | nili=>exact fails _ (.inl rfl) h
     | _=>exact h.elim
    | iface t v u hv =>
     simp only at h
     cases hb:Nat.beq t ty with
     | false =>
      rw [hb] at h
      exact fails _ (.inr ⟨t,u,rfl,fun e=>by subst e;simp at hb⟩) h
     | true =>
      rw [hb] at h
      simp only [fV_eq] at h
      have:=Nat.eq_of_beq_eq_true hb
      subst this
      refine RunOk.same hS (u:=.tuple #[u,.bool true]) ?_ (.tup _ _ rfl fun j hj hj'=>?_) h
      ·unfold Instr.typeAssert
       simp only [Sem.run_bind,hd,Result.andThen_ok]
       cases d<;>first|(exact absurd rfl (hdi _))|simp
      ·match j,hj with
       | 0,_=>exact hv
       | 1,_=>exact .p _ _ (.bool true)
    | _=>exact h.elim
end
end Go.AE
namespace Go.AE
open Op
section
variable {P:Program} {T:Tab} {w:World} {m:Mp} {K:List ABlk} {k:AV→List ABlk→Prop}
theorem ktIs_eq {a b:KT} (h:ktIs a b=true):a=b:=by
 cases a<;>cases b<;>simp [ktIs] at h ⊢
 exact h
theorem keyOf_val {a:AV} {κ:MK} (h:keyOf a=some κ) {u:Value} (hv:V w m a u):u=κ.val:=by
 cases hv with
 | p v u hv =>
  cases hv with
  | int q n=>simp only [keyOf,Option.some.injEq] at h;subst h;rfl
  | str s l hl=>simp only [keyOf,Option.some.injEq] at h;subst h hl;exact (MK.val_str s).symm
  | _=>simp [keyOf] at h
 | _=>simp [keyOf] at h
theorem mapTy_ok (hT:TabOk P T) {ty:Nat} {q:KT→TI→Prop} (h:mapTy T ty q):∃ kty e kt ei,P.underlying ty=some (.map kty e)∧P.underlying kty=some kt.desc∧TIok P e ei∧q kt ei:=by
 unfold mapTy at h
 cases hg:T.t.get ty with
 | none=>rw [hg] at h;exact h.elim
 | some ti =>
  rw [hg] at h
  simp only at h
  obtain⟨i,d,z,hi0,hu,hsz,_,hut,_⟩:=hT.t ty ti hg
  cases hU:ti.u with
  | map kty e =>
   rw [hU] at h hut
   simp only [utOk] at hut h
   subst hut
   cases hk:T.t.get kty with
   | none=>rw [hk] at h;exact h.elim
   | some ki =>
    rw [hk] at h
    simp only at h
    obtain⟨i2,d2,z2,hi2,hu2,hsz2,_,hut2,_⟩:=hT.t kty ki hk
    cases hkt:ki.u.kt with
    | none=>rw [hkt] at h;exact h.elim
    | some kt =>
     rw [hkt] at h
     simp only at h
     cases he:T.t.get e with
     | none=>rw [he] at h;exact h.elim
     | some ei =>
      rw [he] at h
      refine⟨kty,e,kt,ei,hu,?_,hT.t e ei he,h⟩
      rw [hu2]
      cases hU2:ki.u<;>rw [hU2] at hkt hut2<;>simp [UT.kt] at hkt<;>subst hkt<;>simp [utOk] at hut2<;>subst hut2<;>rfl
  | _=>rw [hU] at h;exact h.elim
theorem run_getMap {r:Nat} {es:Array MapEntry} {clock:Nat} (hb:w.heap[r]?=some (.map es clock)):(getObj r).run P w=.ok (.map es clock) w:=by simp [getObj,Sem.run,hb]
theorem run_setMap {r:Nat} {es:Array MapEntry} {clock:Nat} (o:Obj) (hb:w.heap[r]?=some (.map es clock)):(setObj r o).run P w=.ok () (w.putObj r o):=by simp [setObj,Sem.run,hb,World.putObj]
theorem checkKey_run {kty:Nat} {kt:KT} (hu:P.underlying kty=some kt.desc) (b:Bool) (κ:MK) (hκ:κ.kt=kt):(Instr.checkKey b 10000 kty κ.val).run P w=.ok () w:=by
 unfold Instr.checkKey
 simp only [Sem.run_bind,run_underlying hu,Result.andThen_ok]
 subst hκ
 cases κ<;>rfl
theorem findKey_run {kty:Nat} {kt:KT} (hu:P.underlying kty=some kt.desc) {es:List MapEntry} {κ:MK} {r:Option (Nat×Value)} (h:Instr.findNow kt.desc κ.val es 0=some r):(Instr.findKey kty κ.val es).run P w=.ok r w:=by
 unfold Instr.findKey
 simp only [Sem.run_bind,run_underlying hu,Result.andThen_ok,h,Sem.run_pure]
theorem opMakeMap_ok (hT:TabOk P T) (hS:St w m (hp K)) {ty:Nat} (h:opMakeMap T K k ty):RunOk P w m (Instr.makeMap ty none) k:=by
 obtain⟨kty,e,kt,ei,hu,huk,hei,h⟩:=mapTy_ok hT h
 simp only [fL_eq] at h
 have habs:m.L (len K)=.absent:=hS.absent (hp_len K)
 have hTr:=Tr.alloc w m (.map #[] 0) (len K) (.live 0 1 1 1) habs hS.Ilt
 refine⟨.map (some w.heap.size),w.alloc (.map #[] 0),_,_,_,by simp [Instr.makeMap],hTr,?_,?_,h⟩
 ·rw [hp_snoc]
  refine hS.alloc _ _ _ (hp_len K) _ ⟨rfl,#[],0,fun _=>none,heap_alloc_new w _,⟨MapIs.empty kt,fun _ _ _=>rfl,fun _ _ _ h=>by simp at h,fun _ _ h=>by simp at h⟩⟩
 ·have:=V.mref (w:=w.alloc (.map #[] 0)) (m:=m.set (len K) w.heap.size (.live 0 1 1 1)) (len K) 1 1 (by simp [Mp.set])
  simpa [Mp.set] using this
theorem lookup_run (hT:TabOk P T) (hS:St w m (hp K)) {ty kty e:Nat} {kt:KT} {ei:TI} (hu:P.underlying ty=some (.map kty e)) (huk:P.underlying kty=some kt.desc) (hei:TIok P e ei)
  {x:AV} {u:Value} (hx:V w m x u) {κ:MK} (hκ:κ.kt=kt) (ok:Bool) {q:(MK→Option AV)→Prop} (h:fnM K kt x q) :
  ∃ g:MK→Option AV,q g ∧
   (∀ a,g κ=some a→∃ v,V w m a v∧(Instr.lookup ty u κ.val ok).run P w=.ok (if ok then .tuple #[v,.bool true] else v) w) ∧
   (g κ=none→∀ z,(zeroValue e).run P w=.ok z w→(Instr.lookup ty u κ.val ok).run P w=.ok (if ok then .tuple #[z,.bool false] else z) w):=by
 have gen:∀ (b:Nat) (es:Array MapEntry) (clock:Nat) (r:MK→Option (Nat×Value)),w.heap[b]?=some (.map es clock)→MapIs kt es.toList clock r→∀ (g:MK→Option AV),
   (∀ κ,κ.kt=kt→g κ=none→r κ=none)→(∀ κ a,κ.kt=kt→g κ=some a→∃ i u,r κ=some (i,u)∧V w m a u)→q g→∃ g:MK→Option AV,q g ∧
   (∀ a,g κ=some a→∃ v,V w m a v∧(Instr.lookup ty (.map (some b)) κ.val ok).run P w=.ok (if ok then .tuple #[v,.bool true] else v) w) ∧
   (g κ=none→∀ z,(zeroValue e).run P w=.ok z w→(Instr.lookup ty (.map (some b)) κ.val ok).run P w=.ok (if ok then .tuple #[z,.bool false] else z) w):=by
  intro b es clock r ho hi g hno hyes hq
  refine⟨g,hq,fun a ha=>?_,fun hn z hz=>?_⟩
  ·obtain⟨i,v,h1,h2⟩:=hyes κ a hκ ha
   refine⟨v,h2,?_⟩
   have hf:=hi.find κ hκ
   rw [h1] at hf
   simp only [Instr.lookup,Sem.run_bind,run_underlying hu,Result.andThen_ok,run_getMap ho,checkKey_run huk _ κ hκ,findKey_run huk hf,Sem.run_pure]
  ·have hf:=hi.find κ hκ
   rw [hno κ hκ hn] at hf
   simp only [Instr.lookup,Sem.run_bind,run_underlying hu,Result.andThen_ok,run_getMap ho,checkKey_run huk _ κ hκ,findKey_run huk hf,Sem.run_pure,hz]
 unfold fnM at h
 cases hx with
 | p x u hx =>
  cases hx with
  | nilm =>
   refine⟨_,h,fun a ha=>by simp at ha,fun _ z hz=>?_⟩
   simp only [Instr.lookup,Sem.run_bind,run_underlying hu,Result.andThen_ok,checkKey_run huk _ κ hκ,findKey_run (es:=[]) huk (by rfl:Instr.findNow kt.desc κ.val [] 0=some none),Sem.run_pure,hz]
  | mp kt' g b es clock r hI ho hr hn hs hv =>
   simp only at h
   cases hk:ktIs kt' kt with
   | false=>rw [hk] at h;exact h.elim
   | true =>
    rw [hk] at h
    have:=ktIs_eq hk
    subst this
    refine gen b es clock r ho hr _ (fun κ hκ h=>hn κ hκ ?_) (fun κ a hκ h=>?_) h
    ·cases hq:g κ<;>simp [hq] at h ⊢
    ·cases hq:g κ with
     | none=>simp [hq] at h
     | some p =>
      simp only [hq,Option.some.injEq] at h
      subst h
      cases hr':r κ with
      | none=>have:=hs κ p hκ hq;rw [hr'] at this;simp at this
      | some x=>obtain⟨i,v⟩:=x;exact⟨i,v,rfl,.p _ _ (hv κ p i v hκ hq hr')⟩
  | _=>exact h.elim
 | mref r sz cap hL =>
  simp only at h
  cases hn:nth K r with
  | none=>rw [hn] at h;exact h.elim
  | some b =>
   rw [hn] at h
   have hb:=hS.blk r
   rw [hp_nth hn] at hb
   cases b with
   | mp kt' g st =>
    simp only at h
    cases hk:ktIs kt' kt with
    | false=>rw [hk] at h;exact h.elim
    | true =>
     rw [hk] at h
     have:=ktIs_eq hk
     subst this
     obtain⟨_,es,clock,r2,h1,h2⟩:=hb
     exact gen _ es clock r2 h1 h2.is g h2.no h2.yes h
   | _=>exact h.elim
 | mrefOld r b hold =>
  exfalso
  simp only at h
  cases hn:nth K r with
  | none=>rw [hn] at h;exact h.elim
  | some b =>
   rw [hn] at h
   have hb:=hS.blk r
   rw [hp_nth hn] at hb
   cases b with
   | mp kt' g st=>rw [hb.1] at hold;simp [Inf.old] at hold
   | _=>exact h.elim
 | _=>exact h.elim
theorem opLookup_same (hT:TabOk P T) (hS:St w m (hp K)) {ty:Nat} {ok:Bool} {x key:AV} {u v:Value} (hx:V w m x u) (hk:V w m key v) (h:opLookup T K k ty ok x key) :
  ∃ y a,(Instr.lookup ty u v ok).run P w=.ok y w∧V w m a y∧k a K:=by
 obtain⟨kty,e,kt,ei,hu,huk,hei,h⟩:=mapTy_ok hT h
 try simp only at h
 cases hko:keyOf key with
 | none=>rw [hko] at h;exact h.elim
 | some κ =>
  rw [hko] at h
  simp only at h
  cases hki:ktIs κ.kt kt with
  | false=>rw [hki] at h;exact h.elim
  | true =>
   rw [hki] at h
   simp only at h
   have hκ:=ktIs_eq hki
   have:=keyOf_val hko hk
   subst this
   obtain⟨g,hg,h1,h2⟩:=lookup_run hT hS hu huk hei hx hκ ok h
   have tup:∀ {a:AV} {y:Value} (b:Bool),V w m a y→V w m (.tup [a,.p (.bool b)]) (.tuple #[y,.bool b]):=fun b hv=>.tup _ _ rfl fun j hj hj'=>by
    match j,hj with
    | 0,_=>exact hv
    | 1,_=>exact kBool ..
   cases hgk:g κ with
   | some a =>
    have h3:=hg.y a hgk
    obtain⟨y,hv,hr⟩:=h1 a hgk
    cases ok with
    | true=>exact⟨_,_,hr,tup true hv,h3⟩
    | false=>exact⟨_,_,hr,hv,h3⟩
   | none =>
    obtain⟨z,y,hz,hv,h3⟩:=zeroV_ok (w:=w) (m:=m) hei (hg.n hgk)
    have hr:=h2 hgk z hz
    cases ok with
    | true=>exact⟨_,_,hr,tup false hv,h3⟩
    | false=>exact⟨_,_,hr,hv,h3⟩
theorem opLookup_ok (hT:TabOk P T) (hS:St w m (hp K)) {ty:Nat} {ok:Bool} {x key:AV} {u v:Value} (hx:V w m x u) (hk:V w m key v) (h:opLookup T K k ty ok x key):RunOk P w m (Instr.lookup ty u v ok) k:=by
 obtain⟨y,a,hr,hv,hk⟩:=opLookup_same hT hS hx hk h
 exact RunOk.same hS hr hv hk
theorem MpOk.ins {V':AV→Value→Prop} {kt:KT} {es:List MapEntry} {clock:Nat} {g:MK→Option AV} {st:List (MK×Nat)} {r:MK→Option (Nat×Value)} (h:MpOk V' kt es clock g st r)
  {κ:MK} (hκ:κ.kt=kt) {a:AV} {v:Value} (hv:V' a v) :
  (∀ i u,r κ=some (i,u)→MpOk V' kt (es.modify i fun e=>{ e with key:=κ.val,val:=v }) clock (insM g κ a) st (fun k=>if k=κ then some (i,v) else r k)) ∧
  (r κ=none→MpOk V' kt (es++[{ key:=κ.val,val:=v,born:=clock }]) (clock+1) (insM g κ a) st (fun k=>if k=κ then some (es.length,v) else r k)):=by
 have hno:∀ κ' (x:Option (Nat×Value)),κ'.kt=kt→insM g κ a κ'=none→(if κ'=κ then x else r κ')=none:=by
  intro κ' x h1 h2
  by_cases e:κ'=κ
  ·simp [insM,e] at h2
  ·simp only [insM,e,if_false] at h2 ⊢;exact h.no κ' h1 h2
 have hyes:∀ κ' b j,κ'.kt=kt→insM g κ a κ'=some b→∃ i u,(if κ'=κ then some (j,v) else r κ')=some (i,u)∧V' b u:=by
  intro κ' b j h1 h2
  by_cases e:κ'=κ
  ·simp only [insM,e,if_true,Option.some.injEq] at h2 ⊢
   subst h2
   exact⟨_,_,rfl,hv⟩
  ·simp only [insM,e,if_false] at h2 ⊢;exact h.yes κ' b h1 h2
 constructor
 ·intro i u hr
  refine⟨h.is.modify hκ hr v,fun κ'=>hno κ' _,fun κ' b=>hyes κ' b i,fun κ' n hm=>?_⟩
  obtain⟨h1,j,x,e,h2,h3,h4⟩:=h.st κ' n hm
  refine⟨h1,?_⟩
  have hj:(es.modify i fun e=>{ e with key:=κ.val,val:=v })[j]?=some (if i=j then { e with key:=κ.val,val:=v } else e):=by
   rw [List.getElem?_modify,h3];simp only [Option.map_eq_map,Option.map_some]
   try (split<;>rfl)
  by_cases e':κ'=κ
  ·subst e'
   rw [hr] at h2
   simp only [Option.some.injEq,Prod.mk.injEq] at h2
   obtain⟨rfl,rfl⟩:=h2
   refine⟨i,v,_,by simp,hj,?_⟩
   split<;>exact h4
  ·refine⟨j,x,_,by simp [e',h2],hj,?_⟩
   split<;>exact h4
 ·intro hr
  refine⟨h.is.push hκ hr v,fun κ'=>hno κ' _,fun κ' b=>hyes κ' b _,fun κ' n hm=>?_⟩
  obtain⟨h1,j,x,e,h2,h3,h4⟩:=h.st κ' n hm
  have e':κ'≠κ:=by rintro rfl;rw [hr] at h2;simp at h2
  have hj:j<es.length:=by
   rcases Nat.lt_or_ge j es.length with h|h
   ·exact h
   ·rw [List.getElem?_eq_none h] at h3;simp at h3
  exact⟨h1,j,x,e,by simp [e',h2],by rw [List.getElem?_append_left hj];exact h3,h4⟩
theorem keyThatStays_run (κ:MK):(Instr.keyThatStays κ.val κ.val).run P w=.ok κ.val w:=by
 have:Instr.sameBits 10000 κ.val κ.val=true:=by
  cases κ<;>simp [Instr.sameBits,MK.val,bytes_eq]
 simp [Instr.keyThatStays,this]
theorem modify_key {es:Array MapEntry} {i:Nat} {e:MapEntry} {v:Value} (h:es.toList[i]?=some e) (hk:e.key=v):(es.modify i fun e=>{ e with key:=v })=es:=by
 apply Array.ext_getElem?
 intro j
 rw [Array.getElem?_modify]
 by_cases hij:i=j
 ·subst hij
  rw [Array.getElem?_toList] at h
  rw [h]
  subst hk
  simp
 ·simp [hij]
theorem opMapUpdate_ok (hT:TabOk P T) (hS:St w m (hp K)) {ty:Nat} {x key y:AV} {u v z:Value} (hx:V w m x u) (hk:V w m key v) (hy:V w m y z) (h:opMapUpdate T K k ty x key y):RunOkU P w m (Instr.mapUpdate ty u v z) k:=by
 obtain⟨kty,e,kt,ei,hu,huk,hei,h⟩:=mapTy_ok hT h
 try simp only at h
 cases hko:keyOf key with
 | none=>rw [hko] at h;exact h.elim
 | some κ =>
  rw [hko] at h
  simp only at h
  cases hki:ktIs κ.kt kt with
  | false=>rw [hki] at h;exact h.elim
  | true =>
   rw [hki] at h
   simp only at h
   have hκ:=ktIs_eq hki
   have:=keyOf_val hko hk
   subst this
   cases hx with
   | mref r sz cap hL =>
    simp only at h
    cases hn:nth K r with
    | none=>rw [hn] at h;exact h.elim
    | some b =>
     rw [hn] at h
     have hb:=hS.blk r
     rw [hp_nth hn] at hb
     cases b with
     | mp kt' g st =>
      simp only at h
      cases hkk:ktIs kt' kt with
      | false=>rw [hkk] at h;exact h.elim
      | true =>
       rw [hkk] at h
       have:=ktIs_eq hkk
       subst this
       simp only [fL_eq] at h
       obtain⟨hl,es,clock,r2,h1,h2⟩:=hb
       have hlive:(m.L r).isLive:=by rw [hl];trivial
       have hf:=h2.is.find κ hκ
       have fin:∀ (es':Array MapEntry) (clock':Nat) (r3:MK→Option (Nat×Value)),MpOk (V w m) kt' es'.toList clock' (insM g κ y) st r3 →
         (Instr.mapUpdate ty (.map (some (m.ρ r))) κ.val z).run P w=.ok () (w.putObj (m.ρ r) (.map es' clock'))→RunOkU P w m (Instr.mapUpdate ty (.map (some (m.ρ r))) κ.val z) k:=by
        intro es' clock' r3 ho hr
        have hTr:=Tr.putObj hS r hlive (.map es' clock')
        refine⟨_,m,_,hr,hTr,?_,h⟩
        rw [hp_set K r _ _ hn]
        refine hS.putObj r hlive _ _ ⟨hl,es',clock',r3,?_,ho.mono fun _ _ _ _ hv=>hv.mono hTr⟩
        simp [World.putObj,hS.lt r hlive]
       obtain⟨hm,hpu⟩:=h2.ins hκ hy
       cases hr:r2 κ with
       | some iu =>
        obtain⟨i,u'⟩:=iu
        rw [hr] at hf
        obtain⟨e0,he0,hek,_⟩:=h2.is.at hκ hr
        have he0':es[i]?=some e0:=by rw [← Array.getElem?_toList];exact he0
        refine fin (es.modify i fun e=>{ e with key:=κ.val,val:=z }) clock _ (by rw [Array.toList_modify];exact hm i u' hr) ?_
        simp only [Instr.mapUpdate,Sem.run_bind,run_underlying hu,Result.andThen_ok,run_getMap h1,checkKey_run huk _ κ hκ,findKey_run huk hf,he0',Option.map_some,Option.getD_some,hek,keyThatStays_run,run_setMap _ h1]
       | none =>
        rw [hr] at hf
        refine fin (es.push { key:=κ.val,val:=z,born:=clock }) (clock+1) _ (by rw [Array.toList_push];exact hpu hr) ?_
        simp only [Instr.mapUpdate,Sem.run_bind,run_underlying hu,Result.andThen_ok,run_getMap h1,checkKey_run huk _ κ hκ,findKey_run huk hf,run_setMap _ h1]
     | _=>exact h.elim
   | mrefOld r b hold =>
    exfalso
    simp only at h
    cases hn:nth K r with
    | none=>rw [hn] at h;exact h.elim
    | some b =>
     rw [hn] at h
     have hb:=hS.blk r
     rw [hp_nth hn] at hb
     cases b with
     | mp kt' g st=>rw [hb.1] at hold;simp [Inf.old] at hold
     | _=>exact h.elim
   | _=>exact h.elim
theorem opMapEntry_ok (hT:TabOk P T) (hS:St w m (hp K)) {ty:Nat} {x key:AV} {u v:Value} (hx:V w m x u) (hk:V w m key v) (h:opMapEntry T K k ty x key):RunOk P w m (Instr.mapEntry ty u v) k:=by
 obtain⟨kty,e,kt,ei,hu,huk,hei,h⟩:=mapTy_ok hT h
 try simp only at h
 cases hko:keyOf key with
 | none=>rw [hko] at h;exact h.elim
 | some κ =>
  rw [hko] at h
  simp only at h
  cases hki:ktIs κ.kt kt with
  | false=>rw [hki] at h;exact h.elim
  | true =>
   rw [hki] at h
   simp only at h
   have hκ:=ktIs_eq hki
   have:=keyOf_val hko hk
   subst this
   cases hx with
   | mref r sz cap hL =>
    simp only at h
    cases hn:nth K r with
    | none=>rw [hn] at h;exact h.elim
    | some b =>
     rw [hn] at h
     have hb:=hS.blk r
     rw [hp_nth hn] at hb
     cases b with
     | mp kt' g st =>
      simp only at h
      cases hkk:ktIs kt' kt with
      | false=>rw [hkk] at h;exact h.elim
      | true =>
       rw [hkk] at h
       have:=ktIs_eq hkk
       subst this
       simp only [fL_eq] at h
       obtain⟨hl,es,clock,r2,h1,h2⟩:=hb
       have hlive:(m.L r).isLive:=by rw [hl];trivial
       have hf:=h2.is.find κ hκ
       have fin:∀ (es':Array MapEntry) (clock':Nat) (r3:MK→Option (Nat×Value)) (g':MK→Option AV) (n:Nat) (a:AV) (y:Value),MpOk (V w m) kt' es'.toList clock' g' [(κ,n)] r3→V w m a y →
         (Instr.mapEntry ty (.map (some (m.ρ r))) κ.val).run P w=.ok (.tuple #[y,goInt n]) (w.putObj (m.ρ r) (.map es' clock'))→k (.tup [a,.p (.int .i64 n)]) (setN K r (.mp kt' g' [(κ,n)]))→RunOk P w m (Instr.mapEntry ty (.map (some (m.ρ r))) κ.val) k:=by
        intro es' clock' r3 g' n a y ho hv hr hk
        have hTr:=Tr.putObj hS r hlive (.map es' clock')
        refine⟨_,_,m,_,_,hr,hTr,?_,?_,hk⟩
        ·rw [hp_set K r _ _ hn]
         refine hS.putObj r hlive _ _ ⟨hl,es',clock',r3,?_,ho.mono fun _ _ _ _ hv=>hv.mono hTr⟩
         simp [World.putObj,hS.lt r hlive]
        ·exact .tup _ _ rfl fun j hj hj'=>by
          match j,hj with
          | 0,_=>exact hv.mono hTr
          | 1,_=>exact kInt ..
       cases hr:r2 κ with
       | some iu =>
        obtain⟨i,u'⟩:=iu
        rw [hr] at hf
        obtain⟨e0,he0,hek,_⟩:=h2.is.at hκ hr
        have he0':es[i]?=some e0:=by rw [← Array.getElem?_toList];exact he0
        cases hgk:g κ with
        | none=>have:=h2.no κ hκ hgk;rw [hr] at this;simp at this
        | some a =>
         obtain⟨i',y,h3,h4⟩:=h2.yes κ a hκ hgk
         rw [hr] at h3
         simp only [Option.some.injEq,Prod.mk.injEq] at h3
         obtain⟨rfl,rfl⟩:=h3
         refine fin es clock r2 g e0.born a u' ⟨h2.is,h2.no,h2.yes,fun κ' n hm=>?_⟩ h4 ?_ ((h e0.born).y a hgk)
         ·simp only [List.mem_singleton,Prod.mk.injEq] at hm
          obtain⟨rfl,rfl⟩:=hm
          exact⟨hκ,i,u',e0,hr,he0,rfl⟩
         ·simp only [Instr.mapEntry,Sem.run_bind,run_underlying hu,Result.andThen_ok,run_getMap h1,checkKey_run huk _ κ hκ,findKey_run huk hf,he0',Option.map_some,Option.getD_some,hek,keyThatStays_run,run_setMap _ h1,Sem.run_pure,modify_key he0 hek]
       | none =>
        rw [hr] at hf
        cases hgk:g κ with
        | some a=>obtain⟨i',y,h3,h4⟩:=h2.yes κ a hκ hgk;rw [hr] at h3;simp at h3
        | none =>
         obtain⟨z,y,hz,hv,h3⟩:=zeroV_ok (w:=w) (m:=m) hei ((h clock).n hgk)
         have hpu:=(h2.ins hκ hv).2 hr
         have hmp:MpOk (V w m) kt' (es.toList++[{ key:=κ.val,val:=z,born:=clock }]) (clock+1) (insM g κ y) [(κ,clock)] (fun k=>if k=κ then some (es.toList.length,z) else r2 k):=by
          refine⟨hpu.is,hpu.no,hpu.yes,fun κ' n hm=>?_⟩
          simp only [List.mem_singleton,Prod.mk.injEq] at hm
          obtain⟨rfl,rfl⟩:=hm
          exact⟨hκ,es.toList.length,z,{ key:=κ'.val,val:=z,born:=n },by simp,by simp,rfl⟩
         refine fin (es.push { key:=κ.val,val:=z,born:=clock }) (clock+1) _ _ clock y z (by rw [Array.toList_push];exact hmp) hv ?_ h3
         ·simp only [Instr.mapEntry,Sem.run_bind,run_underlying hu,Result.andThen_ok,run_getMap h1,checkKey_run huk _ κ hκ,findKey_run huk hf,hz,run_setMap _ h1,Sem.run_pure]
     | _=>exact h.elim
   | mrefOld r b hold =>
    exfalso
    simp only at h
    cases hn:nth K r with
    | none=>rw [hn] at h;exact h.elim
    | some b =>
     rw [hn] at h
     have hb:=hS.blk r
     rw [hp_nth hn] at hb
     cases b with
     | mp kt' g st=>rw [hb.1] at hold;simp [Inf.old] at hold
     | _=>exact h.elim
   | _=>exact h.elim
theorem opEntryStore_ok (hS:St w m (hp K)) {ty:Nat} {x s y:AV} {u v z:Value} (hx:V w m x u) (hs:V w m s v) (hy:V w m y z) (h:opEntryStore K k x s y):RunOkU P w m (Instr.entryStore ty u v z) k:=by
 unfold opEntryStore at h
 cases hx with
 | mref r sz cap hL =>
  simp only at h
  cases hs with
  | p s v hs =>
   cases hs with
   | int q b =>
    simp only at h
    cases hn:nth K r with
    | none=>rw [hn] at h;exact h.elim
    | some bl =>
     rw [hn] at h
     have hb:=hS.blk r
     rw [hp_nth hn] at hb
     cases bl with
     | mp kt' g st =>
      split at h
      case h_2=>exact h.elim
      rename_i kt2 g2 κ n heq
      injection heq with heq
      injection heq with e1 e2 e3
      subst e1 e2 e3
      obtain⟨rfl,h⟩:=h
      simp only [fL_eq] at h
      obtain⟨hl,es,clock,r2,h1,h2⟩:=hb
      have hlive:(m.L r).isLive:=by rw [hl];trivial
      obtain⟨hκ,i,x,e0,hr,he0,hbo⟩:=h2.st κ n (by simp)
      have hm:=(h2.ins hκ hy).1 i x hr
      have he0':es[i]?=some e0:=by rw [← Array.getElem?_toList];exact he0
      obtain⟨e1,he1,hek,_⟩:=h2.is.at hκ hr
      rw [he0] at he1
      injection he1 with he1
      subst he1
      have hfi:es.findIdx? (fun e=>((e.born:Int)==(n:Int)))=some i:=by
       rw [Array.findIdx?_eq_some_iff_getElem]
       obtain⟨hlt,hge⟩:=Array.getElem?_eq_some_iff.1 he0'
       refine⟨hlt,by rw [hge,hbo];simp,fun j hj hb=>?_⟩
       have hj':es.toList[j]?=some es[j]:=by simp [List.getElem?_eq_getElem,Nat.lt_trans hj hlt]
       have:=h2.is.born j i es[j] e0 hj' he0 (by rw [hbo];exact Int.ofNat.inj (by simpa using hb))
       omega
      have hTr:=Tr.putObj hS r hlive (.map (es.modify i fun e=>{ e with key:=κ.val,val:=z }) clock)
      refine⟨_,m,_,?_,hTr,?_,h⟩
      ·have hsame:(es.modify i fun e=>{ e with val:=z })=es.modify i fun e=>{ e with key:=κ.val,val:=z }:=by
        apply Array.ext_getElem?
        intro j
        rw [Array.getElem?_modify,Array.getElem?_modify]
        by_cases hij:i=j
        ·subst hij
         rw [he0']
         simp [hek]
        ·simp [hij]
       simp only [Instr.entryStore,Sem.run_bind,Result.andThen_ok,run_getMap h1,asInt,asIntOf,Sem.run_pure,hfi,run_setMap _ h1,hsame]
      ·rw [hp_set K r _ _ hn]
       have hmp:MpOk (V w m) kt' (es.modify i fun e=>{ e with key:=κ.val,val:=z }).toList clock (insM g κ y) [] (fun k=>if k=κ then some (i,z) else r2 k):=by
        rw [Array.toList_modify];exact⟨hm.is,hm.no,hm.yes,fun _ _ hm=>by simp at hm⟩
       exact hS.putObj r hlive _ (.mp kt' (insM g κ y) []) ⟨hl,es.modify i fun e=>{ e with key:=κ.val,val:=z },clock,_,by simp [World.putObj,hS.lt r hlive],hmp.mono fun _ _ _ _ hv=>V.mono hTr hv⟩
     | _=>exact h.elim
   | _=>exact h.elim
  | _=>exact h.elim
 | mrefOld r b hold =>
  exfalso
  simp only at h
  cases hs with
  | p s v hs =>
   cases hs with
   | int q b =>
    simp only at h
    cases hn:nth K r with
    | none=>rw [hn] at h;exact h.elim
    | some bl =>
     rw [hn] at h
     have hb:=hS.blk r
     rw [hp_nth hn] at hb
     cases bl with
     | mp kt' g st=>rw [hb.1] at hold;simp [Inf.old] at hold
     | _=>exact h.elim
   | _=>exact h.elim
  | _=>exact h.elim
 | _=>exact h.elim
end
end Go.AE
namespace Go.AE
section
variable {P:Program} {T:Tab}
theorem EnvOk.ev {w:World} {m:Mp} {t:List (Nat×AV)} {a:Act} (h:EnvOk w m t a.tmps) (o:Operand):V w m (ev t o) (a.eval o):=by
 cases o with
 | tmp i=>exact h i
 | func f=>exact .p _ _ (.fn f)
 | global g=>exact .junk _
 | const v =>
  simp only [AE.ev,Act.eval]
  unfold ofConst
  split
  ·exact .p _ _ (.int ..)
  ·exact .p _ _ (.bool ..)
  ·exact .p _ _ (.str _ _ rfl)
  ·exact .p _ _ .nilp
  ·exact .p _ _ .nils
  ·exact .p _ _ .nilf
  ·exact .p _ _ .nili
  ·exact .p _ _ .nilm
  ·exact .junk _
theorem EnvOk.mono {w w':World} {m m':Mp} (t:Tr w m w' m') {e:List (Nat×AV)} {tmps:Array Value} (h:EnvOk w m e tmps):EnvOk w' m' e tmps:=fun d=>(h d).mono t
theorem EnvOk.evs {w:World} {m:Mp} {t:List (Nat×AV)} {a:Act} (h:EnvOk w m t a.tmps) (l:List Operand):VL w m (evs t l) (l.map a.eval).toArray:=by
 induction l with
 | nil=>exact VL.nil w m
 | cons x l ih =>
  refine⟨by have:=ih.1;simp [AE.evs] at this ⊢;exact this,fun j hj hj'=>?_⟩
  cases j with
  | zero=>simpa [AE.evs] using h.ev x
  | succ j =>
   have hj2:j<(AE.evs t l).length:=by simpa [AE.evs] using hj
   have:=ih.2 j hj2 (by simpa using hj')
   simpa [AE.evs] using this
theorem EnvOk.parts {w:World} {m:Mp} {t:List (Nat×AV)} {a:Act} (h:EnvOk w m t a.tmps) (l:List (Nat×Operand)):PL w m (partsOf t l) (l.map fun (i,x)=>(i,a.eval x)):=by
 induction l with
 | nil=>trivial
 | cons x l ih=>exact⟨rfl,h.ev x.2,ih⟩
theorem EnvOk.opt {w:World} {m:Mp} {t:List (Nat×AV)} {a:Act} (h:EnvOk w m t a.tmps) (o:Option Operand):bndOk w m (optEv t o) (o.map a.eval):=by
 cases o with
 | none=>trivial
 | some x=>exact h.ev x
theorem look_cons (t:List (Nat×AV)) (d:Nat) (v:AV) (i:Nat):look ((d,v)::t) i=if d=i then v else look t i:=by
 simp only [look]
 by_cases h:d=i
 ·subst h;simp
 ·rw [if_neg h]
  have:Nat.beq d i=false:=by cases e:Nat.beq d i with
   | true=>exact absurd (Nat.eq_of_beq_eq_true e) h
   | false=>rfl
  rw [this]
theorem EnvOk.set {w:World} {m:Mp} {t:List (Nat×AV)} {tmps:Array Value} (h:EnvOk w m t tmps) {d:Nat} (hd:d<tmps.size) {v:AV} {u:Value} (hv:V w m v u):EnvOk w m ((d,v)::t) (tmps.setIfInBounds d u):=by
 intro i
 rw [look_cons]
 by_cases e:d=i
 ·subst e
  rw [if_pos rfl]
  simpa [Array.getD,hd] using hv
 ·rw [if_neg e]
  have:(tmps.setIfInBounds d u).getD i undef=tmps.getD i undef:=by
   simp only [Array.getD_eq_getD_getElem?,Array.getElem?_setIfInBounds]
   rw [if_neg e]
  rw [this]
  exact h i
theorem EnvOk.put {w:World} {m:Mp} {t:List (Nat×AV)} {a:Act} (h:EnvOk w m t a.tmps) {d:Option Nat} (hd:∀ x,d=some x→x<a.tmps.size) {v:AV} {u:Value} (hv:V w m v u):EnvOk w m (put t d v) (a.put d u).tmps:=by
 cases d with
 | none=>exact h
 | some d=>exact h.set (hd d rfl) hv
theorem EnvOk.know {w:World} {m:Mp} {t:List (Nat×AV)} {tmps:Array Value} (h:EnvOk w m t tmps) {d:Nat} {b:Bool} (hd:look t d=.p (.bool b)):EnvOk w m (know t d b) tmps:=by
 intro i
 simp only [AE.know]
 rw [look_cons]
 by_cases e:d=i
 ·subst e
  rw [if_pos rfl]
  have:=h d
  rwa [hd] at this
 ·rw [if_neg e];exact h i
theorem EnvOk.bool {w:World} {m:Mp} {t:List (Nat×AV)} {tmps:Array Value} (h:EnvOk w m t tmps) {d:Nat} {b:Bool} (hd:look t d=.p (.bool b)):tmps[d]?=some (.bool b):=by
 have hv:=h d
 rw [hd] at hv
 have e:tmps.getD d undef=.bool b:=by
  cases hv with
  | p v u hv =>
   generalize tmps.getD d undef=x at hv
   cases hv
   rfl
 rw [Array.getD_eq_getD_getElem?] at e
 cases hx:tmps[d]? with
 | none=>rw [hx] at e;simp [undef] at e
 | some y=>rw [hx] at e;simp at e;rw [e]
def Post (we:World) (me:Mp) (k:AO→List ABlk→Prop):Ending→World→Prop
 | .returned u,w'=>∃ m' a K',Tr we me w' m'∧St w' m' (hp K')∧V w' m' a u∧k (.ret a) K'
 | .panicked ch,w'=>∃ m' a u K',ch=[{ v:=u,recovered:=false }]∧Tr we me w' m'∧St w' m' (hp K')∧V w' m' a u∧k (.pan a) K'
 | .outgrown,_=>False
def Ent (P : Program) (f : FuncId) : Prop := ∃ fn, P.funcs[f]? = some fn ∧ (fn.name == "runtime.NumGoroutine") = false ∧ fn.body.isSome = true
def ACalls (P:Program) (f:FuncId) (args:List AV) (K:List ABlk) (k:AO→List ABlk→Prop):Prop :=
 Ent P f∧∀ w m Args,St w m (hp K)→VL w m args Args→Calls P f Args w (Post w m k)
def FW (ro:Option Nat):Fence:={ Fence.wide with round:=ro }
theorem FW.calls {ro:Option Nat} {n:Nat} {f:FuncId} {args:Array Value} {w:World} {R:Ending→World→Prop} (h:Calls P f args w R):CallsIn (FW ro) n P f args w R :=
 (callsIn_wide (n:=n)).2 h
theorem FW.depth {ro:Option Nat} {n:Nat}:(FW ro).depth.isSome=true→1≤n:=fun h=>by simp [FW,Fence.wide] at h
def ARound (P:Program) (r:Nat) (args:List AV) (K:List ABlk) (k:AO→List ABlk→Prop):Prop :=
 ∀ w m Args u,St w m (hp K)→VL w m args Args→V w m (.yld r) u→∃ l f tmps assign body,u=.func (.yield l) #[] #[] ∧
  (Instr.yield l Args).run P w=.ok (.round l f tmps assign body) w∧∀ n,RoundIn (FW none) n P l f tmps assign body w (Post w m k)
def CallOk (P:Program) (call:ACall):Prop:=∀ f args K k,call f args K k →
 (Nat.blt f 1000000000=true→ACalls P f args K k)∧(Nat.blt f 1000000000=false→ARound P (Nat.sub f 1000000000) args K k)
theorem callF_ok {call:ACall} (hcall:CallOk P call) {f:FuncId} {args:List AV} {K:List ABlk} {k:AO→List ABlk→Prop} (h:callF call f args K k):ACalls P f args K k:=by
 unfold callF at h
 split at h
 ·rename_i hb;exact (hcall _ _ _ _ h).1 hb
 ·exact h.elim
theorem callFunc_run {f:FuncId} (h:Ent P f) (args:Array Value) (w:World):(callFunc f args).run P w=.ok (.enter f args) w:=by
 obtain⟨fn,h1,h2,h3⟩:=h
 have h4:fn.body.isNone=false:=by cases hb:fn.body<;>simp_all
 simp only [callFunc,Sem.run_bind,run_program,Result.andThen_ok,h1,h2,h4,Bool.false_eq_true,if_false,Sem.run_pure]
theorem exec_val {s:Sem Value} {w w':World} {u:Value} (h:s.run P w=.ok u w'):(do pure (Next.value (← s)):Sem Next).run P w=.ok (.value u) w':=by
 simp [h]
variable {call:ACall} {w:World} {m:Mp} {K:List ABlk} {k kp:AV→List ABlk→Prop} {next:Act→World→Prop} {Q:Exit→Act→World→Prop} {a:Act} {t:List (Nat×AV)} {ro:Option Nat} {nn:Nat}
theorem upon_val {o:Oper} {s:Sem Value} (hk:∀ w' m' v K' u,Tr w m w' m'→St w' m' (hp K')→V w' m' v u→k v K'→next (a.put o.dst u) w') (h:RunOk P w m s k) :
  o.uponIn (FW ro) nn P a next Q ((do pure (Next.value (← s)):Sem Next).run P w):=by
 obtain⟨u,w',m',v,K',hr,h1,h2,h3,h4⟩:=h
 rw [exec_val hr]
 exact hk w' m' v K' u h1 h2 h3 h4
theorem aop_ok (hT:TabOk P T) (hcall:CallOk P call) {o:Oper} (hS:St w m (hp K)) (hE:EnvOk w m t a.tmps)
  (hk:∀ w' m' v K' u,Tr w m w' m'→St w' m' (hp K')→V w' m' v u→k v K'→next (a.put o.dst u) w')
  (hpn:∀ w' m' v K' u,Tr w m w' m'→St w' m' (hp K')→V w' m' v u→kp v K'→Q (.panic [{ v:=u,recovered:=false }]) a w')
  (h:aop T call o t K k kp):o.uponIn (FW ro) nn P a next Q ((execOp a.eval o).run P w):=by
 unfold aop at h
 unfold execOp
 cases hop:o.op with
 | move x =>
  rw [hop] at h
  simp only [fV_eq] at h
  exact hk w m _ K _ (Tr.refl w m) hS (hE.ev x) h
 | assign x =>
  rw [hop] at h
  simp only [fV_eq] at h
  exact hk w m _ K _ (Tr.refl w m) hS (hE.ev x) h
 | pick c x y =>
  rw [hop] at h
  simp only at h
  have hc:=hE.ev c
  split at h
  case h_2=>exact h.elim
  rename_i q hq
  rw [hq] at hc
  cases hc with
  | p v u hv =>
   cases hvv:a.eval c with
   | bool b =>
    rw [hvv] at hv
    cases hv
    simp only [asBool,hvv]
    cases q with
    | true=>simp only [two,fV_eq] at h;exact hk w m _ K _ (Tr.refl w m) hS (hE.ev x) h
    | false=>simp only [two,fV_eq] at h;exact hk w m _ K _ (Tr.refl w m) hS (hE.ev y) h
   | _=>rw [hvv] at hv;cases hv
 | alloc e=>rw [hop] at h;exact upon_val hk (opAlloc_ok hT hS h)
 | box e x=>rw [hop] at h;exact upon_val hk (opBox_ok hS (hE.ev x) h)
 | build ty ps=>rw [hop] at h;exact upon_val hk (opBuild_ok hT hS (by simpa using hE.parts ps.toList) h)
 | buildSlice ty n ps=>rw [hop] at h;exact upon_val hk (opBuildSlice_ok hT hS (by simpa using hE.parts ps.toList) h)
 | load ty x=>rw [hop] at h;exact upon_val hk (opLoad_ok hT hS (hE.ev x) h)
 | store ty x y =>
  rw [hop] at h
  obtain⟨w',m',K',hr,h1,h2,h3⟩:=opStore_ok hT hS (hE.ev x) (hE.ev y) h
  have:(do Instr.storeAt ty (a.eval x) (a.eval y);pure Next.skip:Sem Next).run P w=.ok .skip w':=by simp [hr]
  simp only [this]
  exact hk w' m' .junk K' undef h1 h2 (.junk _) h3
 | makeMap ty r =>
  rw [hop] at h
  cases r with
  | none=>exact upon_val hk (opMakeMap_ok hT hS h)
  | some _=>exact h.elim
 | lookup ty x y ok=>rw [hop] at h;exact upon_val hk (opLookup_ok hT hS (hE.ev x) (hE.ev y) h)
 | mapEntry ty x y=>rw [hop] at h;exact upon_val hk (opMapEntry_ok hT hS (hE.ev x) (hE.ev y) h)
 | mapUpdate ty x y z =>
  rw [hop] at h
  obtain⟨w',m',K',hr,h1,h2,h3⟩:=opMapUpdate_ok hT hS (hE.ev x) (hE.ev y) (hE.ev z) h
  have:(do Instr.mapUpdate ty (a.eval x) (a.eval y) (a.eval z);pure Next.skip:Sem Next).run P w=.ok .skip w':=by simp [hr]
  simp only [this]
  exact hk w' m' .junk K' undef h1 h2 (.junk _) h3
 | insert ty x y z =>
  rw [hop] at h
  obtain⟨w',m',K',hr,h1,h2,h3⟩:=opMapUpdate_ok hT hS (hE.ev x) (hE.ev y) (hE.ev z) h
  have:(do Instr.mapUpdate ty (a.eval x) (a.eval y) (a.eval z);pure Next.skip:Sem Next).run P w=.ok .skip w':=by simp [hr]
  simp only [this]
  exact hk w' m' .junk K' undef h1 h2 (.junk _) h3
 | entryStore ty x y z =>
  rw [hop] at h
  obtain⟨w',m',K',hr,h1,h2,h3⟩:=opEntryStore_ok (ty:=ty) hS (hE.ev x) (hE.ev y) (hE.ev z) h
  have:(do Instr.entryStore ty (a.eval x) (a.eval y) (a.eval z);pure Next.skip:Sem Next).run P w=.ok .skip w':=by rw [Sem.run_bind,hr];rfl
  simp only [this]
  exact hk w' m' .junk K' undef h1 h2 (.junk _) h3
 | nilCheck x =>
  rw [hop] at h
  simp only at h
  have hx:=hE.ev x
  simp only
  generalize ev t x=ax at h hx
  generalize a.eval x=ux at hx
  cases hx with
  | p v u hv =>
   cases hv with
   | fn f=>exact hk w m _ K _ (Tr.refl w m) hS (.p _ _ (.fn f)) h
   | _=>exact h.elim
  | ptr r ver n i off sz cap hL hi=>exact hk w m _ K _ (Tr.refl w m) hS (.ptr r ver n i off sz cap hL hi) h
  | ptrOld r ver n i off b o' hold=>exact hk w m _ K _ (Tr.refl w m) hS (.ptrOld r ver n i off b o' hold) h
  | rop cs off b o' u hI hc hv=>exact hk w m _ K _ (Tr.refl w m) hS (.rop cs off b o' u hI hc hv) h
  | fn f first cap A B hA hB h1 h2=>exact hk w m _ K _ (Tr.refl w m) hS (.fn f first cap A B hA hB h1 h2) h
  | iface ty v u hv=>exact hk w m _ K _ (Tr.refl w m) hS (.iface ty v u hv) h
  | _=>exact h.elim
 | binOp op ty x y yt =>
  rw [hop] at h
  simp only at h
  cases hc:nilC y with
  | none=>rw [hc] at h;exact upon_val hk (opBin_ok hT hS (hE.ev x) (hE.ev y) x y h)
  | some c =>
   rw [hc] at h
   have hy:∃ v,y=.const v:=by
    rcases nilC_val hc with ⟨rfl,_⟩|⟨rfl,_⟩|⟨rfl,_⟩<;>exact⟨_,rfl⟩
   obtain⟨v,rfl⟩:=hy
   exact upon_val hk (opNilCmp_ok hT hS (hE.ev x) x (.const v) hc rfl h)
 | unOp op ty x=>rw [hop] at h;exact upon_val hk (opUn_ok hS (hE.ev x) h)
 | convert s d x=>rw [hop] at h;exact upon_val hk (opConv_ok hT hS (hE.ev x) h)
 | makeInterface ty x=>rw [hop] at h;exact upon_val hk (opIface_ok hT hS (hE.ev x) h)
 | makeFunc fn x y =>
  rw [hop] at h
  cases fn with
  | func f =>
   simp only [fVL_eq] at h
   have h1:=hE.evs x.toList
   have h2:=hE.evs y.toList
   have e1:(x.toList.map a.eval).toArray=x.map a.eval:=by apply Array.ext';simp
   have e2:(y.toList.map a.eval).toArray=y.map a.eval:=by apply Array.ext';simp
   rw [e1] at h1
   rw [e2] at h2
   exact hk w m _ K _ (Tr.refl w m) hS (.fn f _ _ _ _ h1.1 h2.1 h1.2 h2.2) h
  | _=>exact h.elim
 | makeSlice ty l c=>rw [hop] at h;exact upon_val hk (opMakeSlice_ok hT hS (hE.ev l) (hE.ev c) h)
 | slice ty x lo hi mx =>
  rw [hop] at h
  cases mx with
  | none=>exact upon_val hk (opSlice_ok hT hS (hE.ev x) (hE.opt lo) (hE.opt hi) h)
  | some _=>exact h.elim
 | fieldAddr ty x i=>rw [hop] at h;exact upon_val hk (opFieldAddr_ok hT hS (hE.ev x) h)
 | field ty x i=>rw [hop] at h;exact upon_val hk (opField_ok hT hS (hE.ev x) h)
 | indexAddr ty x i=>rw [hop] at h;exact upon_val hk (opIndexAddr_ok hT hS (hE.ev x) (hE.ev i) h)
 | index ty x i=>rw [hop] at h;exact upon_val hk (opIndex_ok hT hS (hE.ev x) (hE.ev i) h)
 | extract x i=>rw [hop] at h;exact upon_val hk (opExtract_ok hS (hE.ev x) h)
 | typeAssert x xt ty ok=>rw [hop] at h;exact upon_val hk (opAssert_ok hT hS (hE.ev x) h)
 | panic x =>
  rw [hop] at h
  simp only at h
  have hx:=hE.ev x
  split at h
  case h_2=>exact h.elim
  rename_i ty v hq
  rw [hq] at hx
  generalize hux:a.eval x=ux at hx
  cases hx with
  | iface ty v u hv =>
   have:(do pure (Next.value (← Instr.panic (a.eval x))):Sem Next).run P w=.halt (.panic (.iface ty u)) w:=by simp [Instr.panic,hux]
   simp only [this]
   exact hpn w m _ K _ (Tr.refl w m) hS (.iface ty v u hv) h
 | call c =>
  rw [hop] at h
  simp only at h ⊢
  cases hc:c.callee with
  | invoke r n=>rw [hc] at h;exact h.elim
  | builtin b =>
   rw [hc] at h
   simp only at h
   have hres:(resolve a.eval c o.type).run P w=.ok { target:=.builtin b c.argTypes o.type (c.args.map fun | .const _=>true|_=>false),args:=c.args.map a.eval } w:=by
    simp only [resolve,hc];rfl
   cases b with
   | len =>
    simp only at h
    split at h
    case h_2=>exact h.elim
    rename_i x hx
    split at h
    case h_2=>exact h.elim
    rename_i ty hty
    have hargs:c.args=#[x]:=by apply Array.ext';simpa using hx
    have htys:c.argTypes=#[ty]:=by apply Array.ext';simpa using hty
    have hr:=opLen_ok (ty:=o.type) hT hS (hE.ev x) h
    have e:(do let d ← resolve a.eval c o.type;invoke d.target d.args:Sem Next).run P w=(do pure (Next.value (← Builtin.len_ #[ty] o.type #[a.eval x])):Sem Next).run P w:=by
     rw [Sem.run_bind,hres]
     simp [invoke,builtin,hargs,htys]
    rw [e]
    exact upon_val hk hr
   | append =>
    simp only at h
    split at h
    case h_2=>exact h.elim
    rename_i s x hx
    split at h
    case h_2=>exact h.elim
    rename_i ty ty' hty
    split at h
    case h_2=>exact h.elim
    rename_i hb
    have:=Nat.eq_of_beq_eq_true hb
    subst this
    have hargs:c.args=#[s,x]:=by apply Array.ext';simpa using hx
    have htys:c.argTypes=#[ty,ty]:=by apply Array.ext';simpa using hty
    have hr:=opAppend_ok (ty:=o.type) hT hS (hE.ev s) (hE.ev x) h
    have e:(do let d ← resolve a.eval c o.type;invoke d.target d.args:Sem Next).run P w=(do pure (Next.value (← Builtin.append_ #[ty,ty] o.type #[a.eval s,a.eval x])):Sem Next).run P w:=by
     rw [Sem.run_bind,hres]
     simp [invoke,builtin,hargs,htys]
    rw [e]
    exact upon_val hk hr
   | max =>
    simp only at h
    split at h
    case h_2=>exact h.elim
    rename_i s x hx
    have hargs:c.args=#[s,x]:=by apply Array.ext';simpa using hx
    have hr:=opMaxMin_max (P:=P) (ts:=c.argTypes) (ty:=o.type) hS (hE.ev s) (hE.ev x) h
    have e:(do let d ← resolve a.eval c o.type;invoke d.target d.args:Sem Next).run P w=(do pure (Next.value (← Builtin.max_ c.argTypes o.type #[a.eval s,a.eval x])):Sem Next).run P w:=by
     rw [Sem.run_bind,hres]
     simp [invoke,builtin,hargs]
    rw [e]
    exact upon_val hk hr
   | min =>
    simp only at h
    split at h
    case h_2=>exact h.elim
    rename_i s x hx
    have hargs:c.args=#[s,x]:=by apply Array.ext';simpa using hx
    have hr:=opMaxMin_min (P:=P) (ts:=c.argTypes) (ty:=o.type) hS (hE.ev s) (hE.ev x) h
    have e:(do let d ← resolve a.eval c o.type;invoke d.target d.args:Sem Next).run P w=(do pure (Next.value (← Builtin.min_ c.argTypes o.type #[a.eval s,a.eval x])):Sem Next).run P w:=by
     rw [Sem.run_bind,hres]
     simp [invoke,builtin,hargs]
    rw [e]
    exact upon_val hk hr
   | _=>exact h.elim
  | value f =>
   rw [hc] at h
   simp only [fVL_eq] at h
   have hf:=hE.ev f
   have hargs:=hE.evs c.args.toList
   have e1:(c.args.toList.map a.eval).toArray=c.args.map a.eval:=by apply Array.ext';simp
   rw [e1] at hargs
   have key:∀ g (args:List AV) (Args:Array Value),VL w m args Args→(callF call g args K fun out K'=>match out with
     | .ret v=>fV v fun v=>k v K'
     | .pan v=>kp v K')→o.uponIn (FW ro) nn P a next Q (.ok (.enter g Args) w):=by
    intro g args Args hA hcl
    obtain⟨_,hcalls⟩:=callF_ok hcall hcl
    rw [Oper.uponIn_enter]
    refine⟨FW.depth,FW.calls ((hcalls w m Args hS hA).mono fun e w' hR=>?_)⟩
    cases e with
    | returned v =>
     obtain⟨m',av,K',h1,h2,h3,h4⟩:=hR
     simp only [fV_eq] at h4
     exact hk w' m' av K' v h1 h2 h3 h4
    | panicked ch =>
     obtain⟨m',av,u,K',rfl,h1,h2,h3,h4⟩:=hR
     exact hpn w' m' av K' u h1 h2 h3 h4
    | outgrown=>exact hR.elim
   have entr:∀ g (args:List AV),(callF call g args K fun out K'=>match out with
     | .ret v=>fV v fun v=>k v K'
     | .pan v=>kp v K')→Ent P g:=fun g args hcl=>(callF_ok hcall hcl).1
   generalize haf:a.eval f=uf at hf
   generalize ev t f=af at h hf
   have yl:∀ r,V w m (.yld r) uf→(call (Nat.add 1000000000 r) (evs t c.args.toList) K fun out K'=>match out with
     | .ret v=>fV v fun v=>k v K'
     | .pan v=>kp v K')→o.uponIn (FW ro) nn P a next Q ((do let d ← resolve a.eval c o.type;invoke d.target d.args:Sem Next).run P w):=by
    intro r hv hcl
    have hnb:Nat.blt (Nat.add 1000000000 r) 1000000000=false:=by
     cases hb:Nat.blt (Nat.add 1000000000 r) 1000000000 with
     | true=>have:=Nat.le_of_ble_eq_true hb;simp only [Nat.add_eq,Nat.succ_eq_add_one] at this;omega
     | false=>rfl
    have har:=(hcall _ _ _ _ hcl).2 hnb
    have hsub:Nat.sub (Nat.add 1000000000 r) 1000000000=r:=by simp
    rw [hsub] at har
    obtain⟨l,f',tmps,assign,body,hu,hy,hro⟩:=har w m _ uf hS hargs hv
    subst hu
    have e:(do let d ← resolve a.eval c o.type;invoke d.target d.args:Sem Next).run P w=.ok (.round l f' tmps assign body) w:=by
     simp [resolve,hc,haf,Deferred.ofValue,invoke,hy]
    rw [e,Oper.uponIn_round]
    refine⟨FW.depth,RoundIn.mono (hro (nn - 1)) fun e w' hR=>?_⟩
    cases e with
    | returned v =>
     obtain⟨m',av,K',h1,h2,h3,h4⟩:=hR
     simp only [fV_eq] at h4
     exact hk w' m' av K' v h1 h2 h3 h4
    | panicked ch =>
     obtain⟨m',av,u,K',rfl,h1,h2,h3,h4⟩:=hR
     exact hpn w' m' av K' u h1 h2 h3 h4
    | outgrown=>exact hR.elim
   cases hf with
   | p v u hv =>
    cases hv with
    | fn g =>
     simp only [aCallV] at h
     have e:(do let d ← resolve a.eval c o.type;invoke d.target d.args:Sem Next).run P w=.ok (.enter g (c.args.map a.eval)) w:=by
      simp [resolve,hc,haf,Deferred.ofValue,invoke,callFunc_run (entr _ _ h)]
     rw [e]
     exact key g _ _ hargs h
    | _=>exact h.elim
   | fn g first cap A B hA hB h1 h2 =>
    simp only [aCallV,fVL_eq,catL_eq] at h
    have e:(do let d ← resolve a.eval c o.type;invoke d.target d.args:Sem Next).run P w=.ok (.enter g (A++c.args.map a.eval++B)) w:=by
     simp [resolve,hc,haf,Deferred.ofValue,invoke,callFunc_run (entr _ _ h)]
    rw [e]
    exact key g _ _ ((VL.append ⟨hA,h1⟩ hargs).append ⟨hB,h2⟩) h
   | yld r sz cap hL=>exact yl r (.yld r sz cap hL) h
   | yldOld r b hL=>exact yl r (.yldOld r b hL) h
   | _=>exact h.elim
 | _=>rw [hop] at h;exact h.elim
variable {we:World} {me:Mp} {N kb:Nat} {D0:List Deferred} {bm:Bool}
inductive Mk (bm:Bool) (we:World) (D0:List Deferred) (w:World) (m:Mp):List Deferred→Prop where
 | base:Mk bm we D0 w m D0
 | mark (hb:bm=true) (D:Nat) (ds:List Deferred) (h1:we.heap.size≤D) (h2:w.heap[D]?=some (.deferred (some []))) (h3:¬ m.I D) (h4:∀ r,(m.L r).isLive→m.ρ r≠D)
   (h5:∀ d∈ds,d.target≠.collected D) (h:Mk bm we D0 w m ds):Mk bm we D0 w m ({ target:=.collected D,args:=#[] }::ds)
theorem Mk.mono {w w':World} {m m':Mp} (t:Tr w m w' m') {ds:List Deferred} (h:Mk bm we D0 w m ds):Mk bm we D0 w' m' ds:=by
 induction h with
 | base=>exact .base
 | mark hb D ds h1 h2 h3 h4 h5 _ ih =>
  have hlt:D<w.heap.size:=(Array.getElem?_eq_some_iff.1 h2).1
  refine .mark hb D ds h1 ((t.out D hlt h4).trans h2) (fun hI=>?_) (fun r hr e=>?_) h5 ih
  ·rcases t.newI D hI with h|⟨r,hr,e⟩|h
   ·exact h3 h
   ·exact h4 r hr e
   ·omega
  ·rcases t.newρ r hr with ⟨hr',e'⟩|h
   ·exact h4 r hr' (e'▸e)
   ·omega
theorem Mk.sub {w:World} {m m':Mp} (t:m.Sub m') {ds:List Deferred} (h:Mk bm we D0 w m ds):Mk bm we D0 w m' ds:=by
 induction h with
 | base=>exact .base
 | mark hb D ds h1 h2 h3 h4 h5 _ ih =>
  refine .mark hb D ds h1 h2 (fun hI=>?_) (fun r hr e=>?_) h5 ih
  ·rcases t.1 D hI with h|⟨r,hr,e⟩
   ·exact h3 h
   ·exact h4 r hr e
  ·exact h4 r (t.2 r hr).1 ((t.2 r hr).2▸e)
def Rel (bm:Bool) (N:Nat) (we:World) (me:Mp) (D0:List Deferred) (Q:Ex→AS→Prop):Exit→Act→World→Prop
 | .normal,a,w=>a.tmps.size=N∧∃ m s,Mk bm we D0 w m a.defers∧Tr we me w m∧St w m (hp s.K)∧EnvOk w m s.t a.tmps∧Q .norm s
 | .exit n,a,w=>a.tmps.size=N∧∃ m s,Mk bm we D0 w m a.defers∧Tr we me w m∧St w m (hp s.K)∧EnvOk w m s.t a.tmps∧Q (.exit n) s
 | .ret,a,w=>a.tmps.size=N∧∃ m s,Mk bm we D0 w m a.defers∧Tr we me w m∧St w m (hp s.K)∧EnvOk w m s.t a.tmps∧Q .ret s
 | .panic ch,a,w=>a.tmps.size=N∧∃ m s v u,Mk bm we D0 w m a.defers∧ch=[{ v:=u,recovered:=false }]∧Tr we me w m∧St w m (hp s.K)∧EnvOk w m s.t a.tmps∧V w m v u∧Q (.pan v) s
 | .goto _,_,_=>False
 | .outgrown,_,_=>False
theorem put_size (a:Act) (d:Option Nat) (u:Value):(a.put d u).tmps.size=a.tmps.size:=by
 cases d<;>simp [Act.put]
theorem put_defers (a:Act) (d:Option Nat) (u:Value):(a.put d u).defers=a.defers:=by
 cases d<;>rfl
theorem aop_semAt {o:Oper} {h':List (Nat×AV)} (h:aop T call o h' K k kp):Oper.semAt ro a.eval o=execOp a.eval o :=
 Oper.semAt_eq ro a.eval o fun c hc=>by unfold aop at h;rw [hc] at h;exact h
theorem opShrink_ok (hT:TabOk P T) (hS:St w m (hp K)) {ty r ver off n:Nat} {hi:AV} {u v:Value} (hx:V w m (.slr r ver off n) u) (hh:V w m hi v)
  (h:opShrink T K k ty r ver off n hi):RunOk P w m (Instr.sliceAt ty u none (some v) none) k:=by
 unfold opShrink at h
 cases hg:T.t.get ty with
 | none=>rw [hg] at h;exact h.elim
 | some ti =>
  rw [hg] at h
  simp only at h
  obtain⟨i,d,z,hi0,hu,hsz,_,hut,_⟩:=hT.t ty ti hg
  cases hU:ti.u with
  | slice e =>
   rw [hU] at h hut
   simp only [utOk] at hut
   subst hut
   simp only at h
   cases hge:T.t.get e with
   | none=>rw [hge] at h;exact h.elim
   | some ei =>
    rw [hge] at h
    simp only at h
    obtain⟨i',d',z',hie,hu',hsz',_⟩:=hT.t e ei hge
    cases hi with
    | p pv =>
     cases pv with
     | int q hv =>
      simp only at h
      cases off with
      | succ _=>exact h.elim
      | zero =>
       simp only at h
       cases hn':nth K r with
       | none=>rw [hn'] at h;exact h.elim
       | some b =>
        rw [hn'] at h
        have hb:=hS.blk r
        rw [hp_nth hn'] at hb
        cases b with
        | arr et sz' ver' n' f =>
         simp only [fL_eq] at h
         obtain⟨⟨rfl,hnn,h0,h1,h3⟩,h⟩:=h
         subst hnn
         cases hx with
         | slr _ _ _ _ N sz cap hL hN =>
          rcases hb with ⟨hb,_⟩|⟨cap',c,hl',hcap,hmax,h2,h4,h5⟩
          ·rw [hL] at hb;simp at hb
          rw [hL] at hl'
          injection hl' with _ e2 e3 e4
          subst e2 e3 e4
          have hlive:(m.L r).isLive:=by rw [hL];trivial
          have hr:=sliceBounds_run (P:=P) (w:=w) (m:=m) true N (cap - 0) (by omega) (lo:=none) (lo':=none) (hi:=some (.p (.int q hv))) (hi':=some v) trivial hh (l:=0) (h:=hv) rfl rfl (Int.le_refl _) h0 (by omega)
          have hrun:(Instr.sliceAt ty (.slice (some ⟨m.ρ r,0*sz,none⟩) N (cap - 0)) none (some v) none).run P w=.ok (.slice (some ⟨m.ρ r,0*sz,none⟩) hv.toNat (cap - 0)) w:=by
           have hc0:¬ cap=0:=by omega
           rw [Nat.sub_zero] at hr ⊢
           simp [Instr.sliceAt,Instr.slice,run_underlying hu,hr,sizeOf,typeInfo,hie,addr_add,hc0]
          have hst:(m.L r).step (.live (ver+1) hv.toNat sz cap) (m.ρ r=m.ρ r):=by
           rw [hL];exact .inr (.inr ⟨_,_,_,_,rfl,.inl (Nat.lt_succ_self _)⟩)
          have hgr:w.grownBy w (some (m.ρ r)):=⟨rfl,rfl,rfl,Nat.le_refl _,fun _ _ _=>rfl⟩
          have hT2:=Tr.grow hS r (m.ρ r) (.live (ver+1) hv.toNat sz cap) hlive hgr hst (.inl rfl)
          have hS2:=hS.grow r (m.ρ r) (.live (ver+1) hv.toNat sz cap) hlive hgr hst (.inl rfl) (hS.lt r hlive) (.arr et sz (ver+1) hv.toNat f)
           (.inr ⟨cap,c,rfl,by omega,hmax,h2,h4,fun i hi=>⟨(h5 i (by omega)).1,fun j hj=>by
            obtain⟨u,hu1,hu2⟩:=(h5 i (by omega)).2 j hj
            exact⟨u,hu1,hu2.mono hT2⟩⟩⟩)
          rw [← hp_set K r _ _ hn'] at hS2
          refine⟨_,w,_,_,_,hrun,hT2,hS2,?_,h⟩
          have:=V.slr (w:=w) (m:=m.set r (m.ρ r) (.live (ver+1) hv.toNat sz cap)) r (ver+1) 0 hv.toNat hv.toNat sz cap (by simp [Mp.set]) (Nat.zero_add _)
          simpa [Mp.set] using this
         | slrNil _ _ hL=>exfalso;simp at h1;omega
         | slrOld _ _ _ _ ad c hold =>
          exfalso
          rcases hb with ⟨hb,h00⟩|⟨cap',c,hl',_⟩
          ·rw [hb] at hold;simp [Inf.old] at hold
          ·rw [hl'] at hold;simp [Inf.old] at hold
        | _=>exact h.elim
     | _=>exact h.elim
    | _=>exact h.elim
  | _=>rw [hU] at h;exact h.elim
theorem aopX_semAt {o:Oper} {h':List (Nat×AV)} (h:aopX T call o h' K k kp):Oper.semAt ro a.eval o=execOp a.eval o :=
 Oper.semAt_eq ro a.eval o fun c hc=>by
  unfold aopX at h
  rw [hc] at h
  simp only at h
  unfold aop at h
  rw [hc] at h
  exact h
theorem aopX_ok (hT:TabOk P T) (hcall:CallOk P call) {o:Oper} (hS:St w m (hp K)) (hE:EnvOk w m t a.tmps)
  (hk:∀ w' m' v K' u,Tr w m w' m'→St w' m' (hp K')→V w' m' v u→k v K'→next (a.put o.dst u) w')
  (hpn:∀ w' m' v K' u,Tr w m w' m'→St w' m' (hp K')→V w' m' v u→kp v K'→Q (.panic [{ v:=u,recovered:=false }]) a w')
  (h:aopX T call o t K k kp):o.uponIn (FW ro) nn P a next Q ((execOp a.eval o).run P w):=by
 unfold aopX at h
 split at h
 ·rename_i ty x hi hop
  split at h
  ·rename_i r ver off n hx
   unfold execOp
   rw [hop]
   have h1:=hE.ev x
   rw [hx] at h1
   exact upon_val hk (opShrink_ok hT hS h1 (hE.ev hi) h)
  ·exact aop_ok hT hcall hS hE hk hpn h
 ·exact aop_ok hT hcall hS hE hk hpn h
theorem aops_ok (hT:TabOk P T) (hcall:CallOk P call) {ops:Array Oper} {Q:Ex→AS→Prop} (l:List Oper):∀ (t:List (Nat×AV)) (K:List ABlk),aops T call N ops.toList l t K Q →
  ∀ (w:World) (m:Mp) (a:Act),Tr we me w m→St w m (hp K)→EnvOk w m t a.tmps→a.tmps.size=N→Mk bm we D0 w m a.defers→wpListIn (FW ro) nn P ops (Rel bm N we me D0 Q) l a w:=by
 induction l with
 | nil=>intro t K h w m a hTr hS hE hN hd;exact⟨hN,m,⟨t,K⟩,hd,hTr,hS,hE,h⟩
 | cons o rest ih =>
  intro t K h w m a hTr hS hE hN hd
  rw [aops_cons] at h
  have hbd:(∀ x,o.dst=some x→x<a.tmps.size)∧want ops.toList t o.guard
    (fun t=>aopX T call o t K (fun v K'=>aops T call N ops.toList rest (put t o.dst v) K' Q) (fun v K'=>Q (.pan v) ⟨t,K'⟩))
    (fun t=>aops T call N ops.toList rest (put t o.dst (.tup [])) K Q):=by
   unfold bound at h
   cases hd':o.dst with
   | none=>rw [hd'] at h;exact⟨fun x hx=>by simp at hx,h⟩
   | some d =>
    rw [hd'] at h
    simp only at h
    cases hb:Nat.blt d N with
    | false=>rw [hb] at h;exact h.elim
    | true =>
     rw [hb] at h
     refine⟨fun x hx=>?_,h⟩
     injection hx with hx
     subst hx
     rw [hN]
     exact Nat.le_of_ble_eq_true hb
  obtain⟨hb,h⟩:=hbd
  have yes:∀ t,EnvOk w m t a.tmps→aopX T call o t K (fun v K'=>aops T call N ops.toList rest (put t o.dst v) K' Q) (fun v K'=>Q (.pan v) ⟨t,K'⟩)→Region.wanted o (yielded ops a.tmps)=true →
    wpListIn (FW ro) nn P ops (Rel bm N we me D0 Q) (o::rest) a w:=by
   intro t hE h hw
   unfold wpListIn
   rw [if_pos hw]
   refine⟨fun _ _=>trivial,?_⟩
   rw [aopX_semAt h]
   refine aopX_ok hT hcall hS hE (fun w' m' v K' u h1 h2 h3 h4=>?_) (fun w' m' v K' u h1 h2 h3 h4=>?_) h
   ·exact ih _ _ h4 w' m' _ (hTr.trans h1) h2 ((hE.mono h1).put hb h3) (by rw [put_size];exact hN) (by rw [put_defers];exact hd.mono h1)
   ·exact⟨hN,m',⟨t,K'⟩,v,u,hd.mono h1,rfl,hTr.trans h1,h2,hE.mono h1,h3,h4⟩
  have no:∀ t,EnvOk w m t a.tmps→aops T call N ops.toList rest (put t o.dst (.tup [])) K Q→Region.wanted o (yielded ops a.tmps)=false→wpListIn (FW ro) nn P ops (Rel bm N we me D0 Q) (o::rest) a w:=by
   intro t hE h hw
   unfold wpListIn
   rw [if_neg (by simp [hw])]
   exact⟨fun _ _=>trivial,ih _ _ h w m _ hTr hS (hE.put hb (.tup [] #[] rfl fun j hj=>by simp at hj)) (by rw [put_size];exact hN) (by rw [put_defers];exact hd)⟩
  unfold want at h
  cases hg:o.guard with
  | none =>
   rw [hg] at h
   exact yes t hE h (by simp [Region.wanted,hg])
  | some g =>
   obtain⟨j,wn⟩:=g
   rw [hg] at h
   simp only at h
   cases hj:nth ops.toList j with
   | none=>rw [hj] at h;exact h.elim
   | some oj =>
    rw [hj] at h
    simp only at h
    cases hdj:oj.dst with
    | none=>rw [hdj] at h;exact h.elim
    | some d =>
     rw [hdj] at h
     simp only at h
     split at h
     case h_3=>exact h.elim
     case h_2 =>
      rename_i hb'
      refine no _ hE h ?_
      have h1:ops[j]?=some oj:=by rw [nth_eq] at hj;simpa using hj
      have hu:=hE d
      rw [hb'] at hu
      have hu2:a.tmps.getD d undef=.tuple #[]:=by
       generalize a.tmps.getD d undef=u at hu
       cases hu with
       | tup _ A hA _ =>
        have:A=#[]:=by apply Array.eq_empty_of_size_eq_zero;simpa using hA.symm
        rw [this]
      have hy:yielded ops a.tmps j=none:=by
       simp only [yielded,h1,Option.bind_some,hdj]
       rw [Array.getD_eq_getD_getElem?] at hu2
       cases h3:a.tmps[d]? with
       | none=>rfl
       | some u=>rw [h3] at hu2;simp at hu2;rw [hu2]
      simp [Region.wanted,hg,hy]
     rename_i b hb'
     have hy:yielded ops a.tmps j=some b:=by
      have h1:ops[j]?=some oj:=by rw [nth_eq] at hj;simpa using hj
      simp only [yielded,h1,Option.bind_some,hdj,hE.bool hb']
     have hE':=hE.know hb'
     have hw:Region.wanted o (yielded ops a.tmps)=(b==wn):=by
      simp only [Region.wanted,hg,hy]
      cases b<;>cases wn<;>rfl
     cases wn with
     | true =>
      cases b with
      | true=>exact yes _ hE' h (by rw [hw];rfl)
      | false=>exact no _ hE' h (by rw [hw];rfl)
     | false =>
      cases b with
      | true=>exact no _ hE' h (by rw [hw];rfl)
      | false=>exact yes _ hE' h (by rw [hw];rfl)
end
end Go.AE
namespace Go.AE
inductive Sch (ops:Array Oper):(Nat→Prop)→List Nat→Prop where
 | nil (E:Nat→Prop) (h:∀ i,i<ops.size→E i):Sch ops E []
 | cons (E:Nat→Prop) (i:Nat) (o:Oper) (rest:List Nat) (hi:ops[i]?=some o) (hn:¬ E i) (he:∀ e∈edges o,E e) (h:Sch ops (fun j=>E j∨j=i) rest):Sch ops E (i::rest)
theorem countP_lt (p:Nat→Bool) (i:Nat) (l:List Nat) (hi:i∈l) (hp:p i=true):l.countP (fun x=>p x&&!(x==i))<l.countP p:=by
 have hle:∀ l:List Nat,l.countP (fun x=>p x&&!(x==i))≤l.countP p:=fun l =>
  List.countP_mono_left fun x _ hx=>by simp only [Bool.and_eq_true] at hx;exact hx.1
 induction l with
 | nil=>simp at hi
 | cons a l ih =>
  simp only [List.countP_cons]
  by_cases e:a=i
  ·subst e
   have:=hle l
   simp [hp];omega
  ·have hi':i∈l:=by
    cases List.mem_cons.1 hi with
    | inl h=>exact absurd h.symm e
    | inr h=>exact h
   have:=ih hi'
   have e2:(a==i)=false:=by simpa using e
   simp only [e2,Bool.not_false,Bool.and_true]
   omega
theorem go_sch (ops:Array Oper) (hlt:∀ (i:Nat) (o:Oper),ops[i]?=some o→∀ e∈edges o,e<i):∀ (fuel t:Nat) (listed:Array Bool) (acc:List Nat),listed.size=ops.size →
  ((List.range ops.size).countP fun i=>!listed.getD i true)≤fuel →
  ∃ s,Region.linearise.go .any ops fuel t listed acc=acc.reverse++s∧Sch ops (fun i=>listed.getD i false=true) s:=by
 intro fuel
 induction fuel with
 | zero =>
  intro t listed acc hs hc
  refine⟨[],by simp [Region.linearise.go],.nil _ fun i hi=>?_⟩
  have h0:(List.range ops.size).countP (fun i=>!listed.getD i true)=0:=by omega
  rw [List.countP_eq_zero] at h0
  have:=h0 i (List.mem_range.2 hi)
  have hil:i<listed.size:=by rw [hs];exact hi
  simp [hil] at this ⊢
  exact this
 | succ fuel ih =>
  intro t listed acc hs hc
  simp only [Region.linearise.go]
  generalize hrs:(List.range ops.size).filter (fun i=>!listed.getD i true&&((ops[i]?).map (fun o=>o.after.all fun e=>!Region.binds .any e || listed.getD e.on false)).getD false)=rs
  cases hr:rs[t % rs.length]? with
  | some i =>
   have hm:i∈rs:=List.mem_of_getElem? hr
   rw [← hrs,List.mem_filter,List.mem_range] at hm
   obtain⟨hi,hcnd⟩:=hm
   simp only [Bool.and_eq_true,Bool.not_eq_true'] at hcnd
   obtain⟨hl,he⟩:=hcnd
   have hil:i<listed.size:=by rw [hs];exact hi
   obtain⟨o,ho⟩:∃ o,ops[i]?=some o:=⟨ops[i],by simp [hi]⟩
   simp only [ho,Option.map_some,Option.getD_some] at he
   have hset:∀ j,(listed.setIfInBounds i true).getD j true=(listed.getD j true || j==i):=by
    intro j
    simp only [Array.getD_eq_getD_getElem?,Array.getElem?_setIfInBounds]
    by_cases e:i=j
    ·subst e;simp [hil]
    ·have:(j==i)=false:=by simpa using fun h:j=i=>e h.symm
     simp [e,this]
   have hsetf:∀ j,(listed.setIfInBounds i true).getD j false=true↔(listed.getD j false=true∨j=i):=by
    intro j
    simp only [Array.getD_eq_getD_getElem?,Array.getElem?_setIfInBounds]
    by_cases e:i=j
    ·subst e;simp [hil]
    ·have:¬ j=i:=fun h=>e h.symm
     simp [e,this]
   obtain⟨s,h1,h2⟩:=ih (t / rs.length) (listed.setIfInBounds i true) (i::acc) (by simp [hs]) (by
    have:=countP_lt (fun j=>!listed.getD j true) i (List.range ops.size) (List.mem_range.2 hi) (by simp [hl])
    have e:(fun j=>!(listed.setIfInBounds i true).getD j true)=(fun x=>(!listed.getD x true)&&!(x==i)):=by
     funext j;rw [hset];simp
    rw [e];omega)
   refine⟨i::s,by show Region.linearise.go .any ops fuel (t / rs.length) (listed.setIfInBounds i true) (i::acc)=_;rw [h1];simp,.cons _ i o s ho ?_ ?_ ?_⟩
   ·simp [hil] at hl ⊢;exact hl
   ·intro e hee
    simp only [edges,List.mem_map,List.mem_filter] at hee
    obtain⟨ed,⟨hed,hb⟩,rfl⟩:=hee
    rw [Array.all_eq_true'] at he
    have:=he ed (by simpa using hed)
    simpa [hb] using this
   ·have:(fun j=>(listed.setIfInBounds i true).getD j false=true)=(fun j=>listed.getD j false=true∨j=i):=by
     funext j;exact propext (hsetf j)
    rw [this] at h2
    exact h2
  | none =>
   refine⟨[],by simp,.nil _ ?_⟩
   have hnil:rs=[]:=by
    cases rs with
    | nil=>rfl
    | cons a r=>simp [Nat.mod_lt] at hr
   rw [← hrs,List.filter_eq_nil_iff] at hnil
   intro i
   induction i using Nat.strongRecOn with
   | _ i ih2 =>
    intro hi
    have h:=hnil i (List.mem_range.2 hi)
    have hil:i<listed.size:=by rw [hs];exact hi
    obtain⟨o,ho⟩:∃ o,ops[i]?=some o:=⟨ops[i],by simp [hi]⟩
    cases hli:listed[i] with
    | true=>simp [hil,hli]
    | false =>
     exfalso
     apply h
     simp only [ho,Option.map_some,Option.getD_some,Bool.and_eq_true]
     refine⟨by simp [hil,hli],?_⟩
     rw [Array.all_eq_true']
     intro e he
     by_cases hb:Region.binds .any e
     ·have hel:e.on<i:=hlt i o ho e.on (by simp only [edges,List.mem_map,List.mem_filter];exact⟨e,⟨by simpa using he,hb⟩,rfl⟩)
      have:=ih2 e.on hel (by omega)
      simp [this]
     ·simp [hb]
theorem schedule_sch (ops:Array Oper) (hlt:∀ (i:Nat) (o:Oper),ops[i]?=some o→∀ e∈edges o,e<i) (t:Nat):Sch ops (fun _=>False) (Region.schedule true ops t):=by
 obtain⟨s,h1,h2⟩:=go_sch ops hlt ops.size t (Array.replicate ops.size false) [] (by simp) (by
  refine Nat.le_trans (List.countP_le_length) (by simp))
 have e:Region.schedule true ops t=s:=by
  unfold Region.schedule
  simp only [Bool.true_or,if_true,Region.linearise]
  rw [h1];simp
 rw [e]
 have:(fun i=>(Array.replicate ops.size false).getD i false=true)=(fun _=>False):=by
  funext i
  simp [Array.getD_eq_getD_getElem?,Array.getElem?_replicate]
  split<;>simp
 rw [this] at h2
 exact h2
theorem mem_iff (l:List Nat) (n:Nat):mem l n=true↔n∈l:=by
 induction l with
 | nil=>simp [mem]
 | cons a l ih =>
  simp only [mem]
  cases h:Nat.beq a n with
  | true=>have:=Nat.eq_of_beq_eq_true h;subst this;simp
  | false =>
   have hne:¬ n=a:=fun e=>by subst e;simp at h
   simp [ih,hne]
theorem subset_iff (l k:List Nat):subset l k=true↔∀ i∈l,i∈k:=by
 induction l with
 | nil=>simp [subset]
 | cons a l ih=>simp [subset,ih,mem_iff]
theorem unN_mem {l m:List Nat} {j:Nat} (h:j∈unN l m):j∈l∨j∈m:=by
 induction l with
 | nil=>exact .inr h
 | cons a l ih =>
  simp only [unN] at h
  split at h
  ·rcases ih h with h|h
   ·exact .inl (List.mem_cons_of_mem _ h)
   ·exact .inr h
  ·rcases List.mem_cons.1 h with h|h
   ·exact .inl (h▸List.mem_cons_self ..)
   ·rcases ih h with h|h
    ·exact .inl (List.mem_cons_of_mem _ h)
    ·exact .inr h
theorem addAll_mem' (acc:List (List Nat)) (l out:List Nat) (j:Nat) (h:j∈addAll acc l out):j∈out∨∃ e∈l,j=e∨j∈ancOf acc e:=by
 induction l generalizing out with
 | nil=>exact .inl h
 | cons e l ih =>
  simp only [addAll] at h
  split at h
  ·rcases ih _ h with h|⟨e',h1,h2⟩
   ·exact .inl h
   ·exact .inr ⟨e',List.mem_cons_of_mem _ h1,h2⟩
  ·rcases ih _ h with h|⟨e',h1,h2⟩
   ·rcases unN_mem h with h|h
    ·exact .inr ⟨e,List.mem_cons_self ..,.inr h⟩
    ·rcases List.mem_cons.1 h with h|h
     ·exact .inr ⟨e,List.mem_cons_self ..,.inl h⟩
     ·exact .inl h
   ·exact .inr ⟨e',List.mem_cons_of_mem _ h1,h2⟩
theorem addAll_mem (acc:List (List Nat)) (l:List Nat) (j:Nat) (h:j∈addAll acc l []):∃ e∈l,j=e∨j∈ancOf acc e:=by
 rcases addAll_mem' acc l [] j h with h|h
 ·simp at h
 ·exact h
theorem ancs_get (l:List Oper):∀ (acc:List (List Nat)),(∀ i,i<acc.length→(ancs l acc)[i]?=acc[i]?) ∧
  ∀ i o,l[i]?=some o→∃ p,(ancs l acc)[acc.length+i]?=some (addAll p (edges o) [])∧∀ e,e<acc.length+i→p[e]?=(ancs l acc)[e]?:=by
 induction l with
 | nil=>intro acc;exact⟨fun i hi=>rfl,fun i o h=>by simp at h⟩
 | cons a l ih =>
  intro acc
  simp only [ancs,snoc_eq]
  obtain⟨h1,h2⟩:=ih (acc++[addAll acc (edges a) []])
  refine⟨fun i hi=>?_,fun i o h=>?_⟩
  ·rw [h1 i (by simp;omega),List.getElem?_append_left hi]
  ·cases i with
   | zero =>
    simp at h
    subst h
    refine⟨acc,?_,fun e he=>?_⟩
    ·rw [h1 _ (by simp)];simp
    ·rw [h1 e (by simp;omega),List.getElem?_append_left (by omega)]
   | succ i =>
    obtain⟨p,h3,h4⟩:=h2 i o (by simpa using h)
    refine⟨p,?_,fun e he=>h4 e (by simp;omega)⟩
    rw [← h3];congr 1;simp;omega
structure DrawOk (L:List Oper) (ac:List (List Nat)):Prop where
 edge:∀ (i:Nat) (o:Oper),L[i]?=some o→∀ e∈edges o,e<i
 slot:∀ (i:Nat) (o:Oper) (j:Nat) (o':Oper) (d:Nat),L[i]?=some o→L[j]?=some o'→o.dst=some d→i≠j→o'.dst≠some d∧(d∈slotsG L o'→i∈ancOf ac j∨j∈ancOf ac i)
 ancE:∀ (i:Nat) (o:Oper) (j:Nat),L[i]?=some o→j∈ancOf ac i→∃ e∈edges o,j=e∨j∈ancOf ac e
theorem avail_iff {L:List Oper} {ac:List (List Nat)} {done:List Nat} {b:Bool} {i:Nat}:avail L ac done b i=true↔i ∉ done∧(∀ j∈ancOf ac i,j∈done)∧(Nat.beq (kindAt L i) 2)=b:=by
 unfold avail
 simp only [Bool.and_eq_true,Bool.not_eq_true',beq_iff_eq,subset_iff]
 constructor
 ·rintro⟨⟨h1,h2⟩,h3⟩
  exact⟨fun hm=>by rw [(mem_iff _ _).2 hm] at h1;simp at h1,h2,h3⟩
 ·rintro⟨h1,h2,h3⟩
  exact⟨⟨by cases h:mem done i with
   | true=>exact absurd ((mem_iff _ _).1 h) h1
   | false=>rfl,h2⟩,h3⟩
theorem pickQ_some {L:List Oper} {ac:List (List Nat)} {done l:List Nat} {i:Nat} (h:pickQ L ac done l=some i):i∈l∧avail L ac done false i=true:=by
 induction l with
 | nil=>simp [pickQ] at h
 | cons a l ih =>
  simp only [pickQ] at h
  cases ha:avail L ac done false a with
  | true=>rw [ha] at h;simp only [Option.some.injEq] at h;subst h;exact⟨by simp,ha⟩
  | false=>rw [ha] at h;obtain⟨h1,h2⟩:=ih h;exact⟨by simp [h1],h2⟩
theorem pickQ_none {L:List Oper} {ac:List (List Nat)} {done l:List Nat} (h:pickQ L ac done l=none):∀ i∈l,avail L ac done false i=false:=by
 induction l with
 | nil=>simp
 | cons a l ih =>
  simp only [pickQ] at h
  cases ha:avail L ac done false a with
  | true=>rw [ha] at h;simp at h
  | false =>
   rw [ha] at h
   intro i hi
   cases List.mem_cons.1 hi with
   | inl e=>exact e▸ha
   | inr e=>exact ih h i e
theorem loudN_mem {L:List Oper} {ac:List (List Nat)} {done l:List Nat} {i:Nat}:i∈loudN L ac done l↔i∈l∧avail L ac done true i=true:=by
 induction l with
 | nil=>simp [loudN]
 | cons a l ih =>
  simp only [loudN]
  cases ha:avail L ac done true a with
  | true =>
   simp only [List.mem_cons,ih]
   constructor
   ·rintro (rfl|⟨h1,h2⟩)
    ·exact⟨.inl rfl,ha⟩
    ·exact⟨.inr h1,h2⟩
   ·rintro⟨rfl|h1,h2⟩
    ·exact .inl rfl
    ·exact .inr ⟨h1,h2⟩
  | false =>
   simp only [List.mem_cons,ih]
   constructor
   ·rintro⟨h1,h2⟩;exact⟨.inr h1,h2⟩
   ·rintro⟨rfl|h1,h2⟩
    ·rw [ha] at h2;simp at h2
    ·exact⟨h1,h2⟩
theorem enum_mem (L:List Oper):∀ s i o,(i,o)∈enum s L↔∃ k,L[k]?=some o∧i=s+k:=by
 induction L with
 | nil=>intro s i o;simp [enum]
 | cons a L ih =>
  intro s i o
  simp only [enum,List.mem_cons,Prod.mk.injEq,ih]
  constructor
  ·rintro (⟨rfl,rfl⟩|⟨k,h1,rfl⟩)
   ·exact⟨0,by simp,by simp⟩
   ·exact⟨k+1,by simpa using h1,by omega⟩
  ·rintro⟨k,h1,rfl⟩
   cases k with
   | zero=>simp at h1;exact .inl ⟨rfl,h1.symm⟩
   | succ k=>exact .inr ⟨k,by simpa using h1,by omega⟩
theorem upto_mem (n i:Nat):i∈upto n↔i<n:=by
 induction n with
 | zero=>simp [upto]
 | succ n ih=>simp only [upto,snoc_eq,List.mem_append,ih,List.mem_singleton];omega
theorem drawB_ok {L:List Oper} (h:drawB L=true):DrawOk L (ancs L []):=by
 unfold drawB drawC at h
 simp only [Bool.and_eq_true] at h
 obtain⟨h1,h6⟩:=h
 rw [List.all_eq_true] at h1
 have hge:∀ (i:Nat) (o:Oper),L[i]?=some o→∀ e∈edges o,e<i:=fun i o ho=>by
  have:=h1 (i,o) ((enum_mem L 0 i o).2 ⟨i,ho,by simp⟩)
  simp only [List.all_eq_true] at this
  exact fun e he=>Nat.le_of_ble_eq_true (this e he)
 refine⟨fun i o ho=>hge i o ho,fun i o j o' d hi hj hd hne=>?_,fun i o j hi hj=>?_⟩
 ·simp only [slotOk,List.all_eq_true] at h6
  have:=h6 (i,o) ((enum_mem L 0 i o).2 ⟨i,hi,by simp⟩)
  simp only [hd] at this
  rw [List.all_eq_true] at this
  have:=this (j,o') ((enum_mem L 0 j o').2 ⟨j,hj,by simp⟩)
  have hb:Nat.beq i j=false:=by cases e:Nat.beq i j with
   | true=>exact absurd (Nat.eq_of_beq_eq_true e) hne
   | false=>rfl
  simp only [hb,Bool.false_or,Bool.and_eq_true,Bool.or_eq_true,Bool.not_eq_true'] at this
  refine⟨fun e=>by rw [e] at this;simp at this,fun hm=>?_⟩
  rcases this.2 with (h|h)|h
  ·rw [(mem_iff _ _).2 hm] at h;simp at h
  ·exact .inl ((mem_iff _ _).1 h)
  ·exact .inr ((mem_iff _ _).1 h)
 ·obtain⟨p,h3',h4'⟩:=(ancs_get L []).2 i o hi
  simp only [List.length_nil,Nat.zero_add] at h3' h4'
  simp only [ancOf,nth_eq,h3'] at hj
  obtain⟨e,he,hj⟩:=addAll_mem _ _ _ hj
  refine⟨e,he,?_⟩
  rcases hj with hj|hj
  ·exact .inl hj
  ·refine .inr ?_
   have hei:=hge i o hi e he
   simp only [ancOf,nth_eq] at hj ⊢
   rw [h4' e hei] at hj
   exact hj
theorem ev_congr {t t':List (Nat×AV)} {x:Operand} (h:∀ d,x=.tmp d→look t d=look t' d):ev t x=ev t' x:=by
 cases x with
 | tmp d=>exact h d rfl
 | _=>rfl
theorem evs_congr {t t':List (Nat×AV)} {l:List Operand} (h:∀ d,.tmp d∈l→look t d=look t' d):evs t l=evs t' l:=by
 induction l with
 | nil=>rfl
 | cons x l ih =>
  simp only [evs]
  rw [ev_congr (fun d e=>h d (by simp [e])),ih (fun d hd=>h d (by simp [hd]))]
theorem parts_congr {t t':List (Nat×AV)} {l:List (Nat×Operand)} (h:∀ d,.tmp d∈l.map (·.2)→look t d=look t' d):partsOf t l=partsOf t' l:=by
 induction l with
 | nil=>rfl
 | cons x l ih =>
  obtain⟨i,x⟩:=x
  simp only [partsOf]
  rw [ev_congr (fun d e=>h d (by simp [e])),ih (fun d hd=>h d (by simp at hd ⊢;exact .inr hd))]
theorem opt_congr {t t':List (Nat×AV)} {o:Option Operand} (h:∀ d,o=some (.tmp d)→look t d=look t' d):optEv t o=optEv t' o:=by
 cases o with
 | none=>rfl
 | some x=>simp only [optEv];rw [ev_congr (fun d e=>h d (by rw [e]))]
theorem slots_mem (l:List Operand) (d:Nat):d∈slots l↔.tmp d∈l:=by
 induction l with
 | nil=>simp [slots]
 | cons x l ih=>cases x<;>simp [slots,ih]
theorem aop_congr {T:Tab} {call:ACall} {o:Oper} {t t':List (Nat×AV)} {K:List ABlk} {k kp:AV→List ABlk→Prop} (h:∀ d,d∈slots o.op.operands.toList→look t d=look t' d) :
  aop T call o t K k kp=aop T call o t' K k kp:=by
 have hm:∀ d,Operand.tmp d∈o.op.operands.toList→look t d=look t' d:=fun d hd=>h d ((slots_mem _ _).2 hd)
 clear h
 unfold aop
 cases hop:o.op<;>rw [hop] at hm<;>simp only [Op.operands] at hm<;>try simp only
 case call c =>
  simp only [Call.operands] at hm
  cases hc:c.callee with
  | value f =>
   rw [hc] at hm
   simp only at hm ⊢
   rw [ev_congr (x:=f) (fun d e=>hm d (by simp [e])),evs_congr (l:=c.args.toList) (fun d hd=>hm d (by simp;exact .inr (by simpa using hd)))]
  | builtin b =>
   rw [hc] at hm
   simp only at hm ⊢
   have ha:∀ x,x∈c.args.toList→ev t x=ev t' x:=fun x hx=>ev_congr fun d e=>hm d (by subst e;simpa using hx)
   cases b<;>try rfl
   all_goals
    (simp only
     split<;>first|rfl|(rename_i heq;rw [heq] at ha;simp at ha;simp only [ha]))
  | invoke r n=>rfl
 case panic x=>rw [ev_congr (x:=x) (fun d e=>hm d (by simp [e]))]
 case typeAssert x xt ty ok=>rw [ev_congr (x:=x) (fun d e=>hm d (by simp [e]))]
 case build ty ps=>rw [parts_congr (fun d hd=>hm d (by simpa using hd))]
 case buildSlice ty n ps=>rw [parts_congr (fun d hd=>hm d (by simpa using hd))]
 case makeFunc fn x y =>
  cases fn<;>try rfl
  simp only
  rw [evs_congr (l:=x.toList) (fun d hd=>hm d (by simp;exact .inl (by simpa using hd))),evs_congr (l:=y.toList) (fun d hd=>hm d (by simp;exact .inr (by simpa using hd)))]
 case slice ty x lo hi mx =>
  cases mx with
  | some _=>rfl
  | none =>
   simp only
   rw [ev_congr (x:=x) (fun d e=>hm d (by simp [e])),opt_congr (o:=lo) (fun d e=>hm d (by simp [e])),opt_congr (o:=hi) (fun d e=>hm d (by simp [e]))]
 case pick c x y=>rw [ev_congr (x:=c) (fun d e=>hm d (by simp [e])),ev_congr (x:=x) (fun d e=>hm d (by simp [e])),ev_congr (x:=y) (fun d e=>hm d (by simp [e]))]
 case makeMap ty r=>cases r<;>rfl
 case lookup ty x y ok=>rw [ev_congr (x:=x) (fun d e=>hm d (by simp [e])),ev_congr (x:=y) (fun d e=>hm d (by simp [e]))]
 case mapEntry ty x y=>rw [ev_congr (x:=x) (fun d e=>hm d (by simp [e])),ev_congr (x:=y) (fun d e=>hm d (by simp [e]))]
 case mapUpdate ty x y z=>rw [ev_congr (x:=x) (fun d e=>hm d (by simp [e])),ev_congr (x:=y) (fun d e=>hm d (by simp [e])),ev_congr (x:=z) (fun d e=>hm d (by simp [e]))]
 case insert ty x y z=>rw [ev_congr (x:=x) (fun d e=>hm d (by simp [e])),ev_congr (x:=y) (fun d e=>hm d (by simp [e])),ev_congr (x:=z) (fun d e=>hm d (by simp [e]))]
 case entryStore ty x y z=>rw [ev_congr (x:=x) (fun d e=>hm d (by simp [e])),ev_congr (x:=y) (fun d e=>hm d (by simp [e])),ev_congr (x:=z) (fun d e=>hm d (by simp [e]))]
 case store ty x y=>rw [ev_congr (x:=x) (fun d e=>hm d (by simp [e])),ev_congr (x:=y) (fun d e=>hm d (by simp [e]))]
 case makeSlice ty x y=>rw [ev_congr (x:=x) (fun d e=>hm d (by simp [e])),ev_congr (x:=y) (fun d e=>hm d (by simp [e]))]
 case fieldAddr ty x i=>rw [ev_congr (x:=x) (fun d e=>hm d (by simp [e]))]
 case field ty x i=>rw [ev_congr (x:=x) (fun d e=>hm d (by simp [e]))]
 case indexAddr ty x y=>rw [ev_congr (x:=x) (fun d e=>hm d (by simp [e])),ev_congr (x:=y) (fun d e=>hm d (by simp [e]))]
 case index ty x y=>rw [ev_congr (x:=x) (fun d e=>hm d (by simp [e])),ev_congr (x:=y) (fun d e=>hm d (by simp [e]))]
 case extract x i=>rw [ev_congr (x:=x) (fun d e=>hm d (by simp [e]))]
 case binOp op ty x y yt=>rw [ev_congr (x:=x) (fun d e=>hm d (by simp [e])),ev_congr (x:=y) (fun d e=>hm d (by simp [e]))]
 case load ty x=>rw [ev_congr (x:=x) (fun d e=>hm d (by simp [e]))]
 case box e x=>rw [ev_congr (x:=x) (fun d e=>hm d (by simp [e]))]
 case nilCheck x=>rw [ev_congr (x:=x) (fun d e=>hm d (by simp [e]))]
 case unOp op ty x=>rw [ev_congr (x:=x) (fun d e=>hm d (by simp [e]))]
 case convert s d x=>rw [ev_congr (x:=x) (fun d e=>hm d (by simp [e]))]
 case makeInterface ty x=>rw [ev_congr (x:=x) (fun d e=>hm d (by simp [e]))]
 case move x=>rw [ev_congr (x:=x) (fun d e=>hm d (by simp [e]))]
 case assign x=>rw [ev_congr (x:=x) (fun d e=>hm d (by simp [e]))]
 all_goals rfl
def Same (v:AV) (K:List ABlk) (v':AV) (K':List ABlk):Prop:=v'=v∧K'=K
theorem Same.refl (v:AV) (K:List ABlk):Same v K v K:=⟨rfl,rfl⟩
def Pure (F:List ABlk→(AV→List ABlk→Prop)→Prop):Prop:=∀ K k,F K k→∃ v,k v K∧∀ K2,F K2 (Same v K2)
def Read (F:List ABlk→(AV→List ABlk→Prop)→Prop):Prop:=∀ K k,F K k→∃ v,k v K∧F K (Same v K)
theorem Pure.read {F:List ABlk→(AV→List ABlk→Prop)→Prop} (h:Pure F):Read F:=fun K k hF=>let ⟨v,h1,h2⟩:=h K k hF;⟨v,h1,h2 K⟩
section
variable {T:Tab}
theorem pure_v (v:AV):Pure fun K k=>fV v fun v=>k v K:=fun K k h=>by
 simp only [fV_eq] at h ⊢;exact⟨_,h,fun K2=>Same.refl _ _⟩
theorem pure_c (v:AV):Pure fun K k=>k v K:=fun K k h=>⟨_,h,fun K2=>Same.refl _ _⟩
theorem pure_f:Pure fun _ _=>False:=fun K k h=>h.elim
theorem pure_chk {c:Prop} {F:List ABlk→(AV→List ABlk→Prop)→Prop} (h:Pure F):Pure fun K k=>Chk c (F K k):=fun K k hc =>
 let ⟨v,h1,h2⟩:=h K k hc.k;⟨v,h1,fun K2=>⟨hc.h,h2 K2⟩⟩
theorem pure_two (b:Bool) {F G:List ABlk→(AV→List ABlk→Prop)→Prop} (h:Pure F) (h':Pure G):Pure fun K k=>two b (F K k) (G K k):=by
 cases b
 ·exact h'
 ·exact h
theorem pure_vl (l:List AV) (f:List AV→AV):Pure fun K k=>fVL l fun l=>k (f l) K:=fun K k h=>by
 simp only [fVL_eq] at h ⊢;exact⟨_,h,fun K2=>Same.refl _ _⟩
theorem pure_part (ti:TI) (cs:List AV) (off:Nat):Pure fun K k=>part ti cs off fun v=>k v K:=by
 unfold part
 cases ti.agg
 ·simp only
  cases nth cs off with
  | none=>exact pure_f
  | some v=>exact pure_v v
 ·simp only
  cases Nat.ble (off+ti.size) (len cs)
  ·exact pure_f
  ·exact pure_vl _ AV.agg
theorem read_load (ty:Nat) (a:AV):Read fun K k=>opLoad T K k ty a:=by
 intro K k h
 unfold opLoad at h ⊢
 cases hg:T.t.get ty with
 | none=>rw [hg] at h;exact h.elim
 | some ti =>
  rw [hg] at h
  simp only at h ⊢
  cases a with
  | rop cs off=>exact (pure_part ti (pvs cs) off).read K k h
  | ptr r ver n i off =>
   simp only at h ⊢
   cases hn:nth K r with
   | none=>rw [hn] at h;exact h.elim
   | some b =>
    rw [hn] at h
    cases b with
    | box bt cs =>
     simp only at h ⊢
     split at h
     ·exact (pure_part ti cs off).read K k h
     ·exact h.elim
    | arr et sz ver' n' f=>exact (pure_chk (pure_part ti (f i) off)).read K k h
    | _=>exact h.elim
  | _=>exact h.elim
theorem pure_build (ty:Nat) (ps:List (Nat×AV)):Pure fun K k=>opBuild T K k ty ps:=by
 unfold opBuild
 cases T.t.get ty with
 | none=>exact pure_f
 | some ti =>
  simp only
  cases ti.u with
  | struct fs =>
   simp only
   cases fillS T.t fs (pvs ti.zero) ps with
   | none=>exact pure_f
   | some cs=>exact pure_vl _ AV.agg
  | _=>exact pure_f
theorem pure_nil (a:AV):Pure fun K k=>opNilCheck K k a:=by
 unfold opNilCheck
 cases a with
 | p v=>cases v<;>first|exact pure_f|exact pure_c _
 | _=>first|exact pure_f|exact pure_c _
theorem pure_int (op:BinOp) (q:IntKind) (a b:Int):Pure fun K k=>opInt K k op q a b:=by
 unfold opInt
 cases op<;>first|exact pure_f|exact pure_c _|exact pure_chk (pure_c _)
theorem pure_str (op:BinOp) (a b:List UInt8):Pure fun K k=>opStr K k op a b:=by
 unfold opStr
 cases op<;>first|exact pure_f|exact pure_c _|exact pure_chk (pure_c _)
theorem pure_bin (op:BinOp) (ty:Nat) (x y:AV):Pure fun K k=>opBin T K k op ty x y:=by
 unfold opBin
 cases x with
 | p x =>
  cases x with
  | int q a =>
   cases y with
   | p y =>
    cases y with
    | int q' b =>
     simp only
     cases decide (q=q') with
     | true=>exact pure_int op q a b
     | false=>exact pure_f
    | _=>exact pure_f
   | _=>exact pure_f
  | str a =>
   cases y with
   | p y=>cases y<;>first|exact pure_str op a _|exact pure_f
   | _=>exact pure_f
  | bool a =>
   cases y with
   | p y =>
    cases y with
    | bool b =>
     simp only
     cases T.t.get ty with
     | none=>exact pure_f
     | some ti =>
      simp only
      cases ti.u with
      | bool=>cases op<;>first|exact pure_f|exact pure_c _
      | _=>exact pure_f
    | _=>exact pure_f
   | _=>exact pure_f
  | _=>exact pure_f
 | _=>exact pure_f
theorem pure_nilcmp (op:BinOp) (ty:Nat) (x:AV) (c:PV):Pure fun K k=>opNilCmp T K k op ty x c:=by
 unfold opNilCmp
 split
 ·exact pure_f
 ·split
  ·exact pure_f
  ·split
   ·exact pure_c _
   ·exact pure_c _
   ·exact pure_f
theorem pure_un (op:UnOp) (x:AV):Pure fun K k=>opUn K k op x:=by
 unfold opUn
 cases op with
 | not =>
  cases x with
  | p x=>cases x<;>first|exact pure_c _|exact pure_f
  | _=>exact pure_f
 | neg =>
  cases x with
  | p x=>cases x<;>first|exact pure_c _|exact pure_f
  | _=>exact pure_f
 | _=>exact pure_f
theorem pure_conv (s d:Nat) (x:AV):Pure fun K k=>opConv T K k s d x:=by
 unfold opConv
 cases T.t.get s with
 | none=>exact pure_f
 | some si =>
  simp only
  cases T.t.get d with
  | none=>exact pure_f
  | some di =>
   simp only
   cases di.u with
   | int q =>
    cases x with
    | p x=>cases x<;>first|exact pure_c _|exact pure_f
    | _=>exact pure_f
   | string =>
    cases x with
    | p x=>cases x<;>first|exact pure_c _|exact pure_f
    | _=>exact pure_f
   | slice e =>
    simp only
    cases T.t.get e with
    | none=>exact pure_f
    | some ei =>
     simp only
     split
     ·cases x with
      | p x=>cases x<;>first|exact pure_chk (pure_c _)|exact pure_f
      | _=>exact pure_f
     ·exact pure_f
   | _=>exact pure_f
theorem pure_iface (ty:Nat) (x:AV):Pure fun K k=>opIface T K k ty x:=by
 unfold opIface
 cases T.t.get ty with
 | none=>exact pure_f
 | some ti=>simp only;cases ti.u<;>first|exact pure_f|exact pure_c _
theorem pure_fieldAddr (ty:Nat) (x:AV) (i:Nat):Pure fun K k=>opFieldAddr T K k ty x i:=by
 unfold opFieldAddr
 cases T.t.get ty with
 | none=>exact pure_f
 | some ti =>
  simp only
  cases ti.u with
  | struct fs =>
   simp only
   cases nth fs i with
   | none=>exact pure_f
   | some o =>
    simp only
    cases T.t.get o.2 with
    | none=>exact pure_f
    | some fi =>
     simp only
     cases Nat.beq fi.size 0
     ·cases x<;>first|exact pure_f|exact pure_c _
     ·exact pure_f
  | _=>exact pure_f
theorem pure_field (ty:Nat) (x:AV) (i:Nat):Pure fun K k=>opField T K k ty x i:=by
 unfold opField
 cases T.t.get ty with
 | none=>exact pure_f
 | some ti =>
  simp only
  cases ti.u with
  | struct fs =>
   simp only
   cases nth fs i with
   | none=>exact pure_f
   | some o =>
    simp only
    cases T.t.get o.2 with
    | none=>exact pure_f
    | some fi=>cases x<;>first|exact pure_f|exact pure_part _ _ _
  | _=>exact pure_f
theorem pure_index (ty:Nat) (x i:AV):Pure fun K k=>opIndex T K k ty x i:=by
 unfold opIndex
 cases T.t.get ty with
 | none=>exact pure_f
 | some ti =>
  simp only
  cases i with
  | p i =>
   cases i with
   | int q i =>
    simp only
    cases ti.u with
    | string =>
     cases x with
     | p x=>cases x<;>first|exact pure_f|exact pure_chk (pure_c _)
     | _=>exact pure_f
    | _=>exact pure_f
   | _=>exact pure_f
  | _=>exact pure_f
theorem pure_extract (x:AV) (i:Nat):Pure fun K k=>opExtract K k x i:=by
 unfold opExtract
 cases x with
 | tup vs =>
  simp only
  cases nth vs i with
  | none=>exact pure_f
  | some v=>exact pure_v v
 | _=>exact pure_f
theorem pure_len (ty:Nat) (x:AV):Pure fun K k=>opLen T K k ty x:=by
 unfold opLen
 cases T.t.get ty with
 | none=>exact pure_f
 | some ti =>
  simp only
  cases ti.u with
  | string =>
   cases x with
   | p x=>cases x<;>first|exact pure_f|exact pure_c _
   | _=>exact pure_f
  | slice e =>
   cases x with
   | p x=>cases x<;>first|exact pure_f|exact pure_c _
   | slr r ver off n=>exact pure_c _
   | _=>exact pure_f
  | _=>exact pure_f
theorem pure_maxmin (b:Bool) (x y:AV):Pure fun K k=>opMaxMin K k b x y:=by
 unfold opMaxMin
 cases x with
 | p x =>
  cases x with
  | int q a =>
   cases y with
   | p y=>cases y<;>first|exact pure_f|(cases b<;>exact pure_c _)
   | _=>exact pure_f
  | _=>exact pure_f
 | _=>exact pure_f
theorem read_slice (ty:Nat) (x:AV) (lo hi:Option AV):Read fun K k=>opSlice T K k ty x lo hi:=by
 intro K k h
 unfold opSlice at h ⊢
 cases hg:T.t.get ty with
 | none=>rw [hg] at h;exact h.elim
 | some ti =>
  rw [hg] at h
  simp only at h ⊢
  cases hU:ti.u with
  | string =>
   rw [hU] at h
   cases x with
   | p x =>
    cases x with
    | str s =>
     simp only at h ⊢
     cases hl:bnd 0 lo with
     | none=>rw [hl] at h;exact h.elim
     | some l =>
      rw [hl] at h
      simp only at h ⊢
      cases hh:bnd s.length hi with
      | none=>rw [hh] at h;exact h.elim
      | some hb =>
       rw [hh] at h
       exact (pure_chk (pure_c _)).read K k h
    | _=>exact h.elim
   | _=>exact h.elim
  | slice e =>
   rw [hU] at h
   simp only at h ⊢
   cases hge:T.t.get e with
   | none=>rw [hge] at h;exact h.elim
   | some ei =>
    rw [hge] at h
    cases x with
    | p x =>
     cases x with
     | sl sz n f =>
      simp only at h ⊢
      cases hl:bnd 0 lo with
      | none=>rw [hl] at h;exact h.elim
      | some l =>
       rw [hl] at h
       simp only at h ⊢
       cases hh:bnd n hi with
       | none=>rw [hh] at h;exact h.elim
       | some hb =>
        rw [hh] at h
        exact (pure_chk (pure_c _)).read K k h
     | _=>exact h.elim
    | slr r ver off n =>
     simp only at h ⊢
     cases hi with
     | some _=>exact h.elim
     | none =>
      simp only at h ⊢
      cases hl:bnd 0 lo with
      | none=>rw [hl] at h;exact h.elim
      | some l =>
       rw [hl] at h
       simp only at h ⊢
       cases hn:nth K r with
       | none=>rw [hn] at h;exact h.elim
       | some b =>
        rw [hn] at h
        cases b with
        | arr et sz ver' n' f=>exact (pure_chk (pure_two _ (pure_c _) (pure_c _))).read K k h
        | _=>exact h.elim
    | _=>exact h.elim
  | _=>rw [hU] at h;exact h.elim
theorem read_indexAddr (ty:Nat) (x i:AV):Read fun K k=>opIndexAddr T K k ty x i:=by
 intro K k h
 unfold opIndexAddr at h ⊢
 cases hg:T.t.get ty with
 | none=>rw [hg] at h;exact h.elim
 | some ti =>
  rw [hg] at h
  simp only at h ⊢
  cases hU:ti.u with
  | slice e =>
   rw [hU] at h
   simp only at h ⊢
   cases hge:T.t.get e with
   | none=>rw [hge] at h;exact h.elim
   | some ei =>
    rw [hge] at h
    cases i with
    | p i =>
     cases i with
     | int q i =>
      simp only at h ⊢
      cases x with
      | p x =>
       cases x with
       | sl sz n f =>
        simp only [fL_eq] at h ⊢
        exact (pure_chk (pure_c _)).read K k h
       | _=>exact h.elim
      | slr r ver off n =>
       simp only at h ⊢
       cases hn:nth K r with
       | none=>rw [hn] at h;exact h.elim
       | some b =>
        rw [hn] at h
        cases b with
        | arr et sz ver' n' f=>exact (pure_chk (pure_c _)).read K k h
        | _=>exact h.elim
      | _=>exact h.elim
     | _=>exact h.elim
    | _=>exact h.elim
  | _=>rw [hU] at h;exact h.elim
theorem zeroV_one {ti:TI} {q:AV→Prop} (h:zeroV ti q):∃ z,q z∧∀ q':AV→Prop,q' z→zeroV ti q':=by
 unfold zeroV at h ⊢
 split at h
 ·simp only [fVL_eq] at h ⊢
  exact⟨_,h,fun _ h=>h⟩
 ·split at h
  ·simp only [fV_eq] at h ⊢
   exact⟨_,h,fun _ h=>h⟩
  ·exact h.elim
theorem ansM_pure (ok:Bool) (v:AV) (b:Bool) {k:AV→List ABlk→Prop} {K:List ABlk} (h:ansM ok v b fun v=>k v K):∃ z,k z K∧∀ q:AV→Prop,q z→ansM ok v b q:=by
 cases ok<;>exact⟨_,h,fun _ h=>h⟩
theorem fnM_one {kt:KT} {x:AV} {q:(MK→Option AV)→Prop} {K:List ABlk} (h:fnM K kt x q):∃ g,q g∧∀ q':(MK→Option AV)→Prop,q' g→fnM K kt x q':=by
 cases x with
 | p x =>
  cases x with
  | nilm=>exact⟨_,h,fun _ h=>h⟩
  | mp kt' g =>
   cases hk:ktIs kt' kt with
   | true=>simp only [fnM,hk] at h;exact⟨_,h,fun _ h=>by simp only [fnM,hk];exact h⟩
   | false=>simp only [fnM,hk] at h
  | _=>exact h.elim
 | mref r =>
  cases hn:nth K r with
  | none=>simp only [fnM,hn] at h
  | some b =>
   cases b with
   | mp kt' g st =>
    cases hk:ktIs kt' kt with
    | true=>simp only [fnM,hn,hk] at h;exact⟨_,h,fun _ h=>by simp only [fnM,hn,hk];exact h⟩
    | false=>simp only [fnM,hn,hk] at h
   | _=>simp only [fnM,hn] at h
 | _=>exact h.elim
theorem mapTy_one {ty:Nat} {q:KT→TI→Prop} (h:mapTy T ty q):∃ kt ei,q kt ei∧∀ q':KT→TI→Prop,q' kt ei→mapTy T ty q':=by
 unfold mapTy at h ⊢
 cases hg:T.t.get ty with
 | none=>rw [hg] at h;exact h.elim
 | some ti =>
  rw [hg] at h
  simp only at h ⊢
  cases hU:ti.u with
  | map kty e =>
   rw [hU] at h
   simp only at h ⊢
   cases hk:T.t.get kty with
   | none=>rw [hk] at h;exact h.elim
   | some ki =>
    rw [hk] at h
    simp only at h ⊢
    cases hkt:ki.u.kt with
    | none=>rw [hkt] at h;exact h.elim
    | some kt =>
     rw [hkt] at h
     simp only at h ⊢
     cases he:T.t.get e with
     | none=>rw [he] at h;exact h.elim
     | some ei =>
      rw [he] at h
      exact⟨kt,ei,h,fun _ h=>h⟩
  | _=>rw [hU] at h;exact h.elim
theorem read_lookup (ty:Nat) (ok:Bool) (x key:AV):Read fun K k=>opLookup T K k ty ok x key:=by
 intro K k h
 unfold opLookup at h ⊢
 obtain⟨kt,ei,h,hback⟩:=mapTy_one h
 cases hko:keyOf key with
 | none=>rw [hko] at h;exact h.elim
 | some κ =>
  rw [hko] at h
  simp only at h
  cases hki:ktIs κ.kt kt with
  | false=>rw [hki] at h;exact h.elim
  | true =>
   rw [hki] at h
   obtain⟨g,hg,hb2⟩:=fnM_one h
   have key2:∃ v,k v K∧∀ q:AV→Prop,q v→MGet (g κ) (fun a=>ansM ok a true q) (zeroV ei fun z=>ansM ok z false q):=by
    cases hgk:g κ with
    | some a =>
     obtain⟨v,h1,h2⟩:=ansM_pure ok a true (hg.y a hgk)
     exact⟨v,h1,fun q hq=>⟨fun a' e=>by injection e with e;subst e;exact h2 q hq,fun e=>by simp at e⟩⟩
    | none =>
     obtain⟨z,h1,h2⟩:=zeroV_one (hg.n hgk)
     obtain⟨v,h3,h4⟩:=ansM_pure ok z false h1
     exact⟨v,h3,fun q hq=>⟨fun a' e=>by simp at e,fun _=>h2 _ (h4 q hq)⟩⟩
   obtain⟨v,h1,h2⟩:=key2
   refine⟨v,h1,?_⟩
   apply hback
   simp only [hko,hki]
   exact hb2 _ (h2 _ (Same.refl _ _))
theorem aop_pure {call:ACall} {o:Oper} (hk:kind o.op=0) (t:List (Nat×AV)) (kp:AV→List ABlk→Prop):Pure fun K k=>aop T call o t K k kp:=by
 unfold aop
 cases hop:o.op<;>rw [hop] at hk<;>simp only [kind] at hk<;>(try (simp at hk;done))
 case move x=>exact pure_v _
 case assign x=>exact pure_v _
 case pick c x y =>
  simp only
  cases ev t c with
  | p v=>cases v<;>first|exact pure_f|exact pure_two _ (pure_v _) (pure_v _)
  | _=>exact pure_f
 case build ty ps=>exact pure_build _ _
 case nilCheck x=>exact pure_nil _
 case binOp op ty x y yt =>
  simp only
  split
  ·exact pure_nilcmp _ _ _ _
  ·exact pure_bin _ _ _ _
 case unOp op ty x=>exact pure_un _ _
 case convert s d x=>exact pure_conv _ _ _
 case makeInterface ty x=>exact pure_iface _ _
 case makeFunc fn x y =>
  cases fn with
  | func f =>
   intro K k h
   simp only [fVL_eq] at h ⊢
   exact⟨_,h,fun K2=>Same.refl _ _⟩
  | _=>exact pure_f
 case fieldAddr ty x i=>exact pure_fieldAddr _ _ _
 case field ty x i=>exact pure_field _ _ _
 case index ty x i=>exact pure_index _ _ _
 case extract x i=>exact pure_extract _ _
 case call c =>
  simp only
  cases hc:c.callee with
  | builtin b =>
   rw [hc] at hk
   cases b<;>simp only at hk<;>(try (simp at hk;done))
   case len =>
    simp only
    split
    ·split
     ·exact pure_len _ _
     ·exact pure_f
    ·exact pure_f
   case max =>
    simp only
    split
    ·exact pure_maxmin _ _ _
    ·exact pure_f
   case min =>
    simp only
    split
    ·exact pure_maxmin _ _ _
    ·exact pure_f
  | _=>rw [hc] at hk;simp at hk
theorem aop_read {call:ACall} {o:Oper} (hk:kind o.op=1) (t:List (Nat×AV)) (kp:AV→List ABlk→Prop):Read fun K k=>aop T call o t K k kp:=by
 unfold aop
 cases hop:o.op<;>rw [hop] at hk<;>simp only [kind] at hk<;>(try (simp at hk;done))
 case load ty x=>exact read_load _ _
 case indexAddr ty x i=>exact read_indexAddr _ _ _
 case lookup ty x i ok=>exact read_lookup _ _ _ _
 case slice ty x lo hi mx =>
  cases mx with
  | none=>exact read_slice _ _ _ _
  | some _=>exact pure_f.read
 case call c =>
  cases hc:c.callee with
  | builtin b=>rw [hc] at hk;cases b<;>simp at hk
  | _=>rw [hc] at hk;simp at hk
end
theorem aopG_pure {T:Tab} {call:ACall} {ops:List Oper} {o:Oper} (hk:kind o.op=0) (t:List (Nat×AV)) (kp:AV→List ABlk→Prop):Pure fun K k=>aopG T call ops o t K k kp:=by
 unfold aopG
 split
 ·exact aop_pure hk t kp
 ·split
  ·exact pure_f
  ·split
   ·exact pure_f
   ·split
    ·split
     ·exact aop_pure hk t kp
     ·exact aop_pure hk t kp
     ·exact pure_c (.tup [])
    ·exact pure_c (.tup [])
    ·exact pure_f
theorem aopG_read {T:Tab} {call:ACall} {ops:List Oper} {o:Oper} (hk:kind o.op=1) (t:List (Nat×AV)) (kp:AV→List ABlk→Prop):Read fun K k=>aopG T call ops o t K k kp:=by
 unfold aopG
 split
 ·exact aop_read hk t kp
 ·split
  ·exact pure_f.read
  ·split
   ·exact pure_f.read
   ·split
    ·split
     ·exact aop_read hk t kp
     ·exact aop_read hk t kp
     ·exact (pure_c (.tup [])).read
    ·exact (pure_c (.tup [])).read
    ·exact pure_f.read
theorem aopG_cases {T:Tab} {call:ACall} {ops:Array Oper} {o:Oper} {t:List (Nat×AV)} {K:List ABlk} {k kp:AV→List ABlk→Prop} {w:World} {m:Mp} {tmps:Array Value} (hE:∀ d,d∈slotsG ops.toList o→V w m (look t d) (tmps.getD d undef))
  (h:aopG T call ops.toList o t K k kp):(Region.wanted o (yielded ops tmps)=true∧aop T call o t K k kp)∨(Region.wanted o (yielded ops tmps)=false∧k (.tup []) K):=by
 unfold aopG at h
 cases hg:o.guard with
 | none=>rw [hg] at h;exact .inl ⟨by simp [Region.wanted,hg],h⟩
 | some g =>
  obtain⟨j,wn⟩:=g
  rw [hg] at h
  simp only at h
  cases hj:nth ops.toList j with
  | none=>rw [hj] at h;exact h.elim
  | some oj =>
   rw [hj] at h
   simp only at h
   cases hdj:oj.dst with
   | none=>rw [hdj] at h;exact h.elim
   | some d =>
    rw [hdj] at h
    simp only at h
    have hEd:=hE d (by simp [slotsG,gslot,hg,hj,hdj])
    cases hb':look t d with
    | p v =>
     cases v with
     | bool b =>
      rw [hb'] at h hEd
      have hu:tmps.getD d undef=.bool b:=by
       generalize tmps.getD d undef=u at hEd
       cases hEd with
       | p _ _ h=>cases h;rfl
      have hy:yielded ops tmps j=some b:=by
       have h1:ops[j]?=some oj:=by rw [nth_eq] at hj;simpa using hj
       have h2:tmps[d]?=some (.bool b):=by
        rw [Array.getD_eq_getD_getElem?] at hu
        cases h3:tmps[d]? with
        | none=>rw [h3] at hu;simp [undef] at hu
        | some u=>rw [h3] at hu;simp at hu;rw [hu]
       simp only [yielded,h1,Option.bind_some,hdj,h2]
      have hw:Region.wanted o (yielded ops tmps)=(b==wn):=by
       simp only [Region.wanted,hg,hy]
       cases b<;>cases wn<;>rfl
      cases wn<;>cases b<;>first|exact .inl ⟨by rw [hw];rfl,h⟩|exact .inr ⟨by rw [hw];rfl,h⟩
     | _=>rw [hb'] at h;exact h.elim
    | tup vs =>
     cases vs with
     | cons v r=>rw [hb'] at h;exact h.elim
     | nil =>
      rw [hb'] at h hEd
      have hu:tmps.getD d undef=.tuple #[]:=by
       generalize tmps.getD d undef=u at hEd
       cases hEd with
       | tup _ A hA _ =>
        have:A=#[]:=by apply Array.eq_empty_of_size_eq_zero;simpa using hA.symm
        rw [this]
      have hy:yielded ops tmps j=none:=by
       have h1:ops[j]?=some oj:=by rw [nth_eq] at hj;simpa using hj
       simp only [yielded,h1,Option.bind_some,hdj]
       rw [Array.getD_eq_getD_getElem?] at hu
       cases h3:tmps[d]? with
       | none=>rfl
       | some u=>rw [h3] at hu;simp at hu;rw [hu]
      exact .inr ⟨by simp [Region.wanted,hg,hy],h⟩
    | _=>rw [hb'] at h;exact h.elim
section
variable {P:Program} {T:Tab} {call:ACall} {we:World} {me:Mp} {N:Nat} {D0:List Deferred} {bm:Bool} {ro:Option Nat} {nn:Nat} {L:List Oper} {ac:List (List Nat)}
theorem recheck_ok {an:List Nat} {K:List ABlk} {k:Prop} {rd:List (Nat×List (Nat×AV)×AV)} (h:recheck T call L an K k rd) :
  k∧∀ q t v,(q,t,v)∈rd→q ∉ an→∃ o,L[q]?=some o∧aopG T call L o t K (fun v' _=>v'=v) (fun _ _=>False):=by
 induction rd with
 | nil=>exact⟨h,by simp⟩
 | cons x rd ih =>
  obtain⟨q,t,v⟩:=x
  rw [recheck_cons] at h
  cases hm:mem an q with
  | true =>
   rw [hm] at h
   obtain⟨h1,h2⟩:=ih h
   refine⟨h1,fun q' t' v' hx hn=>?_⟩
   cases List.mem_cons.1 hx with
   | inl e=>injection e with e1 _;subst e1;exact absurd ((mem_iff _ _).1 hm) hn
   | inr e=>exact h2 q' t' v' e hn
  | false =>
   rw [hm] at h
   simp only at h
   cases ho:nth L q with
   | none=>rw [ho] at h;exact h.elim
   | some o =>
    rw [ho] at h
    obtain⟨h1,h2⟩:=ih h.2
    refine⟨h1,fun q' t' v' hx hn=>?_⟩
    cases List.mem_cons.1 hx with
    | inl e =>
     injection e with e1 e2
     injection e2 with e2 e3
     subst e1 e2 e3
     exact⟨o,by rw [← nth_eq];exact ho,h.1⟩
    | inr e=>exact h2 q' t' v' e hn
def QFact (T:Tab) (call:ACall) (N:Nat) (L:List Oper) (ac:List (List Nat)) (rd:List (Nat×List (Nat×AV)×AV)) (t0 t:List (Nat×AV)) (K:List ABlk) (q:Nat):Prop :=
 ∃ o tq v,L[q]?=some o∧(kind o.op≠2∧∀ d,o.dst=some d→d<N)∧(∀ d,o.dst=some d→look t d=v) ∧
  (∀ d∈slotsG L o,((∃ i∈ancOf ac q,dstAt L i=some d)→look tq d=look t d)∧((∀ i∈ancOf ac q,dstAt L i≠some d)→look tq d=look t0 d)) ∧
  (kind o.op=0→∀ K2,aopG T call L o tq K2 (Same v K2) (fun _ _=>False))∧(kind o.op=1→(q,tq,v)∈rd∧aopG T call L o tq K (Same v K) (fun _ _=>False))
structure DInv (P:Program) (T:Tab) (call:ACall) (we:World) (me:Mp) (N:Nat) (L:List Oper) (ac:List (List Nat)) (Q:Ex→AS→Prop) (t0:List (Nat×AV))
  (E:Nat→Prop) (n:Nat) (pre:List Nat) (rd:List (Nat×List (Nat×AV)×AV)) (t:List (Nat×AV)) (K:List ABlk) (w:World) (m:Mp) (tmps:Array Value):Prop where
 anc:∀ i∈pre,∀ j∈ancOf ac i,j∈pre
 lt:∀ i∈pre,i<L.length
 sub:∀ i,E i→i∈pre
 loud:∀ i∈pre,kindAt L i=2→E i
 tr:Tr we me w m
 st:St w m (hp K)
 size:tmps.size=N
 rest:adraw T call N L ac n pre rd t K Q
 done:∀ d i,E i→dstAt L i=some d→V w m (look t d) (tmps.getD d undef)
 old:∀ d,(∀ i,E i→dstAt L i≠some d)→V w m (look t0 d) (tmps.getD d undef)
 keep:∀ d,(∀ i∈pre,dstAt L i≠some d)→look t d=look t0 d
 quiet:∀ q∈pre,¬ E q→QFact T call N L ac rd t0 t K q
theorem dstAt_some {i d:Nat} (h:dstAt L i=some d):∃ o,L[i]?=some o∧o.dst=some d:=by
 unfold dstAt at h
 rw [nth_eq] at h
 cases ho:L[i]? with
 | none=>rw [ho] at h;simp at h
 | some o=>rw [ho] at h;exact⟨o,rfl,h⟩
theorem dstAt_of {i:Nat} {o:Oper} (h:L[i]?=some o):dstAt L i=o.dst:=by unfold dstAt;rw [nth_eq,h]
theorem kindAt_of {i:Nat} {o:Oper} (h:L[i]?=some o):kindAt L i=kind o.op:=by unfold kindAt;rw [nth_eq,h]
theorem DrawOk.one (D:DrawOk L ac) {i j d:Nat} (hi:dstAt L i=some d) (hj:dstAt L j=some d):i=j:=by
 obtain⟨o,h1,h2⟩:=dstAt_some hi
 obtain⟨o',h3,h4⟩:=dstAt_some hj
 by_cases e:i=j
 ·exact e
 ·exact absurd h4 (D.slot i o j o' d h1 h3 h2 e).1
theorem look_put (t:List (Nat×AV)) (d:Option Nat) (v:AV) (x:Nat):look (put t d v) x=if d=some x then v else look t x:=by
 cases d with
 | none=>simp [put]
 | some d=>simp only [put,look_cons];by_cases e:d=x<;>simp [e]
theorem bound_ok {d:Option Nat} {k:Prop} (h:bound N d k):(∀ x,d=some x→x<N)∧k:=by
 unfold bound at h
 cases d with
 | none=>exact⟨by simp,h⟩
 | some d =>
  simp only at h
  cases hb:Nat.blt d N with
  | false=>rw [hb] at h;exact h.elim
  | true =>
   rw [hb] at h
   exact⟨fun x hx=>by injection hx with hx;subst hx;exact Nat.le_of_ble_eq_true hb,h⟩
theorem DInv.norm (D:DrawOk L ac) {Q:Ex→AS→Prop} {t0:List (Nat×AV)} {E:Nat→Prop} {w:World} {m:Mp} {tmps:Array Value} (n:Nat):∀ {pre rd t K},
  DInv P T call we me N L ac Q t0 E n pre rd t K w m tmps →
  ∃ n' pre' rd' t' K',DInv P T call we me N L ac Q t0 E (n'+1) pre' rd' t' K' w m tmps∧pickQ L ac pre' (upto (len L))=none:=by
 induction n with
 | zero=>intro pre rd t K h;exact h.rest.elim
 | succ n ih =>
  intro pre rd t K h
  have hr:=h.rest
  rw [adraw_succ] at hr
  unfold adrawS at hr
  cases hq:pickQ L ac pre (upto (len L)) with
  | none=>exact⟨n,pre,rd,t,K,h,hq⟩
  | some i =>
   rw [hq] at hr
   simp only [fN_eq] at hr
   unfold adrawQ at hr
   obtain⟨hiL,hav⟩:=pickQ_some hq
   obtain⟨hnot,hanc,hk2⟩:=avail_iff.1 hav
   have hil:i<L.length:=by rw [upto_mem,len_eq] at hiL;exact hiL
   cases ho:nth L i with
   | none=>rw [ho] at hr;exact hr.elim
   | some o =>
    rw [ho] at hr
    rw [nth_eq] at ho
    obtain⟨hb,hr⟩:=bound_ok hr
    rw [kindAt_of ho] at hk2
    have hk2:kind o.op≠2:=fun e=>by rw [e] at hk2;simp at hk2
    have hself:i ∉ ancOf ac i:=fun hm=>hnot (hanc i hm)
    have hget:∃ v rd',(∀ x∈rd,x∈rd')∧adraw T call N L ac n (i::pre) rd' (put t o.dst v) K Q∧(kind o.op=0→∀ K2,aopG T call L o t K2 (Same v K2) (fun _ _=>False)) ∧
      (kind o.op=1→(i,t,v)∈rd'∧aopG T call L o t K (Same v K) (fun _ _=>False)):=by
     split at hr
     ·rename_i hk
      obtain⟨v,h1,h2⟩:=aopG_pure hk t _ K _ hr
      exact⟨v,rd,fun x hx=>hx,splitG_ok h1,fun _=>h2,fun e=>by rw [hk] at e;simp at e⟩
     ·rename_i hk
      obtain⟨v,h1,h2⟩:=aopG_read hk t _ K _ hr
      exact⟨v,_,fun x hx=>List.mem_cons_of_mem _ hx,splitG_ok h1,fun e=>by rw [hk] at e;simp at e,fun _=>⟨by simp,h2⟩⟩
     ·exact hr.elim
    obtain⟨v,rd',hrd,h1,h2,h3⟩:=hget
    have hd:∀ x j,j∈pre→dstAt L j=some x→o.dst≠some x:=fun x j hj hjx e =>
     hnot (D.one (L:=L) (ac:=ac) (i:=j) (j:=i) hjx (by rw [dstAt_of ho];exact e)▸hj)
    refine ih (pre:=i::pre) (rd:=rd') (t:=put t o.dst v) (K:=K) ?_
    refine⟨fun j hj k hk=>?_,fun j hj=>?_,fun j hj=>by simp [h.sub j hj],fun j hj hk=>?_,h.tr,h.st,h.size,h1,fun d j hE hjd=>?_,h.old,fun d hd'=>?_,fun q hq hqE=>?_⟩
    ·cases List.mem_cons.1 hj with
     | inl e=>subst e;exact List.mem_cons_of_mem _ (hanc k hk)
     | inr e=>exact List.mem_cons_of_mem _ (h.anc j e k hk)
    ·cases List.mem_cons.1 hj with
     | inl e=>subst e;exact hil
     | inr e=>exact h.lt j e
    ·cases List.mem_cons.1 hj with
     | inl e=>subst e;rw [kindAt_of ho] at hk;exact absurd hk hk2
     | inr e=>exact h.loud j e hk
    ·rw [look_put,if_neg (hd d j (h.sub j hE) hjd)]
     exact h.done d j hE hjd
    ·rw [look_put,if_neg (fun e=>hd' i (by simp) (by rw [dstAt_of ho];exact e))]
     exact h.keep d (fun j hj=>hd' j (by simp [hj]))
    ·cases List.mem_cons.1 hq with
     | inr hq =>
      obtain⟨oq,tq,vq,q1,qk,q2,q3,q4,q5⟩:=h.quiet q hq hqE
      refine⟨oq,tq,vq,q1,qk,fun d hd'=>?_,fun d hd'=>⟨fun he=>?_,(q3 d hd').2⟩,q4,fun e=>⟨hrd _ (q5 e).1,(q5 e).2⟩⟩
      ·rw [look_put,if_neg (hd d q hq (by rw [dstAt_of q1];exact hd'))]
       exact q2 d hd'
      ·rw [(q3 d hd').1 he,look_put,if_neg ?_]
       intro e
       obtain⟨j,hj,hjd⟩:=he
       have:i=j:=D.one (i:=i) (j:=j) (by rw [dstAt_of ho];exact e) hjd
       exact hnot (this▸h.anc q hq j hj)
     | inl e =>
      subst e
      refine⟨o,t,v,ho,⟨hk2,hb⟩,fun d hd'=>by rw [look_put,if_pos hd'],fun d hd'=>⟨fun he=>?_,fun he=>?_⟩,h2,h3⟩
      ·rw [look_put,if_neg ?_]
       intro e
       obtain⟨j,hj,hjd⟩:=he
       have:q=j:=D.one (i:=q) (j:=j) (by rw [dstAt_of ho];exact e) hjd
       exact hself (this▸hj)
      ·refine h.keep d (fun j hj hjd=>?_)
       obtain⟨oj,j1,j2⟩:=dstAt_some hjd
       rcases (D.slot j oj q o d j1 ho j2 (fun e=>hnot (e▸hj))).2 hd' with hx|hx
       ·exact he j hx hjd
       ·exact hnot (h.anc j hj q hx)
def restrict (t:List (Nat×AV)):List Nat→List (Nat×AV)
 | []=>[]
 | d::r=>(d,look t d)::restrict t r
theorem look_restrict (t:List (Nat×AV)) (l:List Nat) (d:Nat):look (restrict t l) d=if d∈l then look t d else .junk:=by
 induction l with
 | nil=>simp [restrict,look]
 | cons a l ih =>
  simp only [restrict,look_cons,ih,List.mem_cons]
  by_cases e:a=d
  ·subst e;simp
  ·have e':¬ d=a:=fun x=>e x.symm
   simp [e,e']
theorem EnvOk.restrict {w:World} {m:Mp} {t:List (Nat×AV)} {tmps:Array Value} {l:List Nat} (h:∀ d∈l,V w m (look t d) (tmps.getD d undef)):EnvOk w m (restrict t l) tmps:=by
 intro d
 rw [look_restrict]
 by_cases e:d∈l
 ·rw [if_pos e];exact h d e
 ·rw [if_neg e];exact .junk _
theorem draw_run (hT:TabOk P T) (hcall:CallOk P call) {ops:Array Oper} (D:DrawOk ops.toList ac) {Q:Ex→AS→Prop} {t0:List (Nat×AV)} {E:Nat→Prop} {s:List Nat} (hs:Sch ops E s) :
  (∀ i,E i→∃ o,ops.toList[i]?=some o∧∀ j∈ancOf ac i,E j)→∀ {n pre rd t K w m} {a:Act},Mk bm we D0 w m a.defers →
  DInv P T call we me N ops.toList ac Q t0 E n pre rd t K w m a.tmps→wpOpsIn (FW ro) nn P ops (Rel bm N we me D0 Q) s a w:=by
 induction hs with
 | nil E hE =>
  intro hcl n pre rd t K w m a hd h
  simp only [wpOpsIn]
  obtain⟨n,pre,rd,t,K,h,hq⟩:=h.norm D
  have hl:loudN ops.toList ac pre (upto (len ops.toList))=[]:=by
   cases hl:loudN ops.toList ac pre (upto (len ops.toList)) with
   | nil=>rfl
   | cons i r =>
    exfalso
    have hm:i∈loudN ops.toList ac pre (upto (len ops.toList)):=by rw [hl];simp
    obtain⟨h1,h2⟩:=loudN_mem.1 hm
    rw [upto_mem,len_eq] at h1
    exact (avail_iff.1 h2).1 (h.sub i (hE i (by simpa using h1)))
  have hr:=h.rest
  rw [adraw_succ] at hr
  unfold adrawS at hr
  rw [hq,hl] at hr
  refine⟨h.size,m,⟨t,K⟩,hd,h.tr,h.st,fun d=>?_,hr⟩
  by_cases hex:∃ i,E i∧dstAt ops.toList i=some d
  ·obtain⟨i,h1,h2⟩:=hex
   exact h.done d i h1 h2
  ·have hno:∀ i,E i→dstAt ops.toList i≠some d:=fun i h1 h2=>hex ⟨i,h1,h2⟩
   rw [h.keep d (fun i hi=>?_)]
   ·exact h.old d hno
   ·have hil:=h.lt i hi
    exact hno i (hE i (by simpa using hil))
 | cons E i o rest hi hn he hs ih =>
  intro hcl n pre rd t K w m a hd h
  have hoL:ops.toList[i]?=some o:=by simpa using hi
  have hiL:i<ops.toList.length:=by rw [List.getElem?_eq_some_iff] at hoL;exact hoL.1
  obtain⟨n,pre,rd,t,K,h,hq⟩:=h.norm D
  have hanc:∀ j∈ancOf ac i,E j:=fun j hj=>by
   obtain⟨e,h1,h2⟩:=D.ancE i o j hoL hj
   rcases h2 with rfl|h2
   ·exact he j h1
   ·obtain⟨_,_,h3⟩:=hcl e (he e h1)
    exact h3 j h2
  have hcl':∀ j,(E j∨j=i)→∃ o,ops.toList[j]?=some o∧∀ k∈ancOf ac j,(E k∨k=i):=fun j hj=>by
   rcases hj with hj|rfl
   ·obtain⟨o,h1,h2⟩:=hcl j hj
    exact⟨o,h1,fun k hk=>.inl (h2 k hk)⟩
   ·exact⟨o,hoL,fun k hk=>.inl (hanc k hk)⟩
  have hclA:∀ e,E e→∀ j∈ancOf ac e,E j:=fun e he=>let ⟨_,_,h⟩:=hcl e he;h
  simp only [wpOpsIn,hi]
  have hslot:∀ d,d∈slotsG ops.toList o→∀ j,E j→dstAt ops.toList j=some d→j∈ancOf ac i:=fun d hd' j hj hjd=>by
   obtain⟨oj,j1,j2⟩:=dstAt_some hjd
   rcases (D.slot j oj i o d j1 hoL j2 (fun e=>hn (e▸hj))).2 hd' with hx|hx
   ·exact hx
   ·exact absurd (hclA j hj i hx) hn
  by_cases hk2:kind o.op=2
  ·
   have hinp:i ∉ pre:=fun hm=>hn (h.loud i hm (by rw [kindAt_of hoL];exact hk2))
   have hr:=h.rest
   rw [adraw_succ] at hr
   unfold adrawS at hr
   rw [hq] at hr
   have hm:i∈loudN ops.toList ac pre (upto (len ops.toList)):=loudN_mem.2 ⟨by rw [upto_mem,len_eq];exact hiL,avail_iff.2 ⟨hinp,fun j hj=>h.sub j (hanc j hj),by rw [kindAt_of hoL,hk2];rfl⟩⟩
   cases hl:loudN ops.toList ac pre (upto (len ops.toList)) with
   | nil=>rw [hl] at hm;simp at hm
   | cons a1 r =>
   rw [hl] at hr hm
   replace hr:=each_ok hr i hm
   simp only [fN_eq] at hr
   unfold adrawL at hr
   rw [nth_eq,hoL] at hr
   obtain⟨hb,hr⟩:=bound_ok hr
   have hwr:∀ d∈slotsG ops.toList o,V w m (look t d) (a.tmps.getD d undef):=fun d hd'=>by
    by_cases hex:∃ j,E j∧dstAt ops.toList j=some d
    ·obtain⟨j,h1,h2⟩:=hex
     exact h.done d j h1 h2
    ·rw [h.keep d (fun j hj hjd=>?_)]
     ·exact h.old d (fun j h1 h2=>hex ⟨j,h1,h2⟩)
     ·obtain⟨oj,j1,j2⟩:=dstAt_some hjd
      rcases (D.slot j oj i o d j1 hoL j2 (fun e=>hinp (e▸hj))).2 hd' with hx|hx
      ·exact hex ⟨j,hanc j hx,hjd⟩
      ·exact hinp (h.anc j hj i hx)
   have hnext:∀ (w':World) (m':Mp) (v:AV) (K':List ABlk) (u:Value),Tr w m w' m'→St w' m' (hp K')→V w' m' v u →
     splitG (isGd i ops.toList) v (fun v=>recheck T call ops.toList (ancOf ac i) K' (adraw T call N ops.toList ac n (i::pre) rd (put t o.dst v) K' Q) rd)→wpOpsIn (FW ro) nn P ops (Rel bm N we me D0 Q) rest (a.put o.dst u) w':=by
    intro w' m' v K' u h1 h2 h3 h4
    obtain⟨h5,h6⟩:=recheck_ok (splitG_ok h4)
    have hnod:∀ x j,j∈pre→dstAt ops.toList j=some x→o.dst≠some x:=fun x j hj hjx e =>
     hinp (D.one (i:=j) (j:=i) hjx (by rw [dstAt_of hoL];exact e)▸hj)
    have hput:∀ d,o.dst≠some d→(a.put o.dst u).tmps.getD d undef=a.tmps.getD d undef:=fun d hne=>by
     cases hd':o.dst with
     | none=>rfl
     | some x =>
      have:x≠d:=fun e=>hne (by rw [hd',e])
      simp only [Act.put,Array.getD_eq_getD_getElem?,Array.getElem?_setIfInBounds,if_neg this]
    refine ih hcl' (n:=n) (pre:=i::pre) (rd:=rd) (t:=put t o.dst v) (K:=K') (m:=m') (by rw [put_defers];exact hd.mono h1) ?_
    refine⟨fun j hj k hk=>?_,fun j hj=>?_,fun j hj=>?_,fun j hj hk=>?_,h.tr.trans h1,h2,by rw [put_size];exact h.size,h5,fun d j hE hjd=>?_,fun d hd'=>?_,fun d hd'=>?_,fun q hq hqE=>?_⟩
    ·cases List.mem_cons.1 hj with
     | inl e=>subst e;exact List.mem_cons_of_mem _ (h.sub k (hanc k hk))
     | inr e=>exact List.mem_cons_of_mem _ (h.anc j e k hk)
    ·cases List.mem_cons.1 hj with
     | inl e=>subst e;exact hiL
     | inr e=>exact h.lt j e
    ·rcases hj with hj|rfl
     ·simp [h.sub j hj]
     ·simp
    ·cases List.mem_cons.1 hj with
     | inl e=>exact .inr e
     | inr e=>exact .inl (h.loud j e hk)
    ·rcases hE with hE|rfl
     ·have hne:=hnod d j (h.sub j hE) hjd
      rw [look_put,if_neg hne,hput d hne]
      exact (h.done d j hE hjd).mono h1
     ·rw [dstAt_of hoL] at hjd
      rw [look_put,if_pos hjd]
      have hlt:d<a.tmps.size:=by rw [h.size];exact hb d hjd
      rw [hjd]
      simpa [Act.put,Array.getD,hlt] using h3
    ·have hne:o.dst≠some d:=fun e=>hd' i (.inr rfl) (by rw [dstAt_of hoL];exact e)
     rw [hput d hne]
     exact (h.old d (fun j hj=>hd' j (.inl hj))).mono h1
    ·rw [look_put,if_neg (fun e=>hd' i (by simp) (by rw [dstAt_of hoL];exact e))]
     exact h.keep d (fun j hj=>hd' j (by simp [hj]))
    ·rcases List.mem_cons.1 hq with rfl|hq
     ·exact absurd (.inr rfl) hqE
     ·obtain⟨oq,tq,vq,q1,qk,q2,q3,q4,q5⟩:=h.quiet q hq (fun e=>hqE (.inl e))
      refine⟨oq,tq,vq,q1,qk,fun d hd'=>?_,fun d hd'=>⟨fun he'=>?_,(q3 d hd').2⟩,q4,fun e=>?_⟩
      ·rw [look_put,if_neg (hnod d q hq (by rw [dstAt_of q1];exact hd'))]
       exact q2 d hd'
      ·rw [(q3 d hd').1 he',look_put,if_neg ?_]
       intro e
       obtain⟨j,hj,hjd⟩:=he'
       have:i=j:=D.one (i:=i) (j:=j) (by rw [dstAt_of hoL];exact e) hjd
       exact hinp (this▸h.anc q hq j hj)
      ·obtain⟨hin,_⟩:=q5 e
       refine⟨hin,?_⟩
       obtain⟨o2,h7,h8⟩:=h6 q tq vq hin (fun hm=>hqE (.inl (hanc q hm)))
       rw [q1] at h7
       injection h7 with h7
       subst h7
       obtain⟨v',h9,h10⟩:=aopG_read e tq _ K' _ h8
       subst h9
       exact h10
   rcases aopG_cases hwr hr with ⟨hw,hr⟩|⟨hw,hr⟩
   ·rw [if_pos hw]
    refine⟨fun _ _=>trivial,?_⟩
    rw [aop_semAt hr]
    rw [aop_congr (t':=restrict t (slotsG ops.toList o)) (fun d hd'=>by rw [look_restrict,if_pos (show d∈slotsG ops.toList o from List.mem_append_left _ hd')])] at hr
    refine aop_ok hT hcall h.st (EnvOk.restrict hwr) (fun w' m' v K' u h1 h2 h3 h4=>?_) (fun w' m' v K' u h1 h2 h3 h4=>?_) hr
    ·exact hnext w' m' v K' u h1 h2 h3 h4
    ·exact⟨h.size,m',⟨[],K'⟩,v,u,hd.mono h1,rfl,h.tr.trans h1,h2,fun _=>.junk _,h3,h4⟩
   ·rw [if_neg (by simp [hw])]
    exact⟨fun _ _=>trivial,hnext w m (.tup []) K undef (Tr.refl w m) h.st (.tup [] #[] rfl fun j hj=>by simp at hj) hr⟩
  ·
   have hip:i∈pre:=by
    by_cases hm:i∈pre
    ·exact hm
    ·exfalso
     have h1:=pickQ_none hq i (by rw [upto_mem,len_eq];exact hiL)
     rw [avail_iff.2 ⟨hm,fun j hj=>h.sub j (hanc j hj),by
      rw [kindAt_of hoL]
      cases hb:Nat.beq (kind o.op) 2 with
      | true=>exact absurd (Nat.eq_of_beq_eq_true hb) hk2
      | false=>rfl⟩] at h1
     simp at h1
   obtain⟨oq,tq,vq,q1,qk,q2,q3,q4,q5⟩:=h.quiet i hip hn
   rw [hoL] at q1
   injection q1 with q1
   subst q1
   have hkk:kind o.op=0∨kind o.op=1∨kind o.op=2:=by
    unfold kind
    split<;>first|simp|(split<;>first|simp|(split<;>simp))
   have ha:aopG T call ops.toList o tq K (Same vq K) (fun _ _=>False):=by
    rcases hkk with e|e|e
    ·exact q4 e K
    ·exact (q5 e).2
    ·exact absurd e hk2
   have hwr:∀ d∈slotsG ops.toList o,V w m (look tq d) (a.tmps.getD d undef):=fun d hd'=>by
    by_cases hex:∃ j∈ancOf ac i,dstAt ops.toList j=some d
    ·rw [(q3 d hd').1 hex]
     obtain⟨j,h1,h2⟩:=hex
     exact h.done d j (hanc j h1) h2
    ·rw [(q3 d hd').2 (fun j h1 h2=>hex ⟨j,h1,h2⟩)]
     exact h.old d (fun j h1 h2=>hex ⟨j,hslot d hd' j h1 h2,h2⟩)
   have hb:∀ x,o.dst=some x→x<a.tmps.size:=fun x hx=>by rw [h.size];exact qk.2 x hx
   have hnext:∀ (w':World) (m':Mp) (v:AV) (K':List ABlk) (u:Value),Tr w m w' m'→St w' m' (hp K')→V w' m' v u→Same vq K v K'→wpOpsIn (FW ro) nn P ops (Rel bm N we me D0 Q) rest (a.put o.dst u) w':=by
    intro w' m' v K' u h1 h2 h3 h4
    obtain⟨rfl,rfl⟩:=h4
    have hput:∀ d,o.dst≠some d→(a.put o.dst u).tmps.getD d undef=a.tmps.getD d undef:=fun d hne=>by
     cases hd':o.dst with
     | none=>rfl
     | some x =>
      have:x≠d:=fun e=>hne (by rw [hd',e])
      simp only [Act.put,Array.getD_eq_getD_getElem?,Array.getElem?_setIfInBounds,if_neg this]
    refine ih hcl' (n:=n+1) (pre:=pre) (rd:=rd) (t:=t) (K:=K') (m:=m') (by rw [put_defers];exact hd.mono h1) ?_
    refine⟨h.anc,h.lt,fun j hj=>?_,fun j hj hk=>.inl (h.loud j hj hk),h.tr.trans h1,h2,by rw [put_size];exact h.size,h.rest,fun d j hE hjd=>?_,fun d hd'=>?_,h.keep,fun q hq hqE=>h.quiet q hq (fun e=>hqE (.inl e))⟩
    ·rcases hj with hj|rfl
     ·exact h.sub j hj
     ·exact hip
    ·rcases hE with hE|rfl
     ·by_cases hne:o.dst=some d
      ·have:j=i:=D.one hjd (by rw [dstAt_of hoL];exact hne)
       exact absurd (this▸hE) hn
      ·rw [hput d hne]
       exact (h.done d j hE hjd).mono h1
     ·rw [dstAt_of hoL] at hjd
      rw [q2 d hjd]
      have hlt:d<a.tmps.size:=hb d hjd
      rw [hjd]
      simpa [Act.put,Array.getD,hlt] using h3
    ·have hne:o.dst≠some d:=fun e=>hd' i (.inr rfl) (by rw [dstAt_of hoL];exact e)
     rw [hput d hne]
     exact (h.old d (fun j hj=>hd' j (.inl hj))).mono h1
   rcases aopG_cases hwr ha with ⟨hw,ha⟩|⟨hw,ha⟩
   ·rw [if_pos hw]
    refine⟨fun _ _=>trivial,?_⟩
    rw [aop_semAt ha]
    rw [aop_congr (t':=restrict tq (slotsG ops.toList o)) (fun d hd'=>by rw [look_restrict,if_pos (show d∈slotsG ops.toList o from List.mem_append_left _ hd')])] at ha
    exact aop_ok hT hcall h.st (EnvOk.restrict hwr) (fun w' m' v K' u h1 h2 h3 h4=>hnext w' m' v K' u h1 h2 h3 h4) (fun w' m' v K' u h1 h2 h3 h4=>h4.elim) ha
   ·rw [if_neg (by simp [hw])]
    exact⟨fun _ _=>trivial,hnext w m (.tup []) K undef (Tr.refl w m) h.st (.tup [] #[] rfl fun j hj=>by simp at hj) ha⟩
theorem adraw_ok (hT:TabOk P T) (hcall:CallOk P call) (hmix:P.follows .mixedOrders=true) {id:Nat} {ops:Array Oper} {Q:Ex→AS→Prop} {t:List (Nat×AV)} {K:List ABlk} (hB:drawB ops.toList=true) {n:Nat}
  (h:adraw T call N ops.toList (ancs ops.toList []) n [] [] t K Q) (w:World) (m:Mp) (a:Act)
  (hTr:Tr we me w m) (hS:St w m (hp K)) (hE:EnvOk w m t a.tmps) (hN:a.tmps.size=N) (hd:Mk bm we D0 w m a.defers):(Code.region id ops true).wpIn (FW ro) nn P (Rel bm N we me D0 Q) a w:=by
 have D:=drawB_ok hB
 refine wpIn_region_draw fun k=>?_
 rw [hmix]
 have hs:=schedule_sch ops (fun i o ho=>D.edge i o (by simpa using ho)) k
 refine draw_run hT hcall D (t0:=t) hs (fun i hi=>hi.elim) (n:=n) (pre:=[]) (rd:=[]) (t:=t) (K:=K) (m:=m) (hd.mono (Tr.drew w m)) ?_
 refine⟨fun i hi=>by simp at hi,fun i hi=>by simp at hi,fun i hi=>hi.elim,fun i hi=>by simp at hi,hTr.trans (Tr.drew w m),hS.drew,hN,h,fun d i hi=>hi.elim,fun d _=>(hE d).mono (Tr.drew w m),fun d _=>rfl,fun q hq=>by simp at hq⟩
end
end Go.AE
