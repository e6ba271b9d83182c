/-
  From a row's premises to what the layer AE asks of the world in which a call begins.
  THE ROW OF ParseBrackets.
  THE CARD OF ParseBrackets.
-/
import Derived.Test.YtbcngegcpdppfaaGreatDoorRows
import Derived.Shelf.Vars
import Derived.ProofKit
import Derived.LaidMore
import Derived.LaidSub
import Derived.Lib.LaidTab
import Derived.Handed
import Derived.ChangeMaps5
import Derived.LaidOnce
import Derived.Stop.Joined
import Derived.Test.YtbcngegcpdppfaaGreatDoorTie
import Derived.Test.YtbcngegcpdppfaaGreatDoorCards
import Derived.SevenTiedAt
import Derived.Test.YtbcngegcpdppfaaGreatDoorPk1
import Derived.Test.YtbcngegcpdppfaaGreatDoorPk2
import Derived.Test.YtbcngegcpdppfaaGreatDoorPk3
import Derived.Test.YtbcngegcpdppfaaGreatDoorPk4
import Derived.Test.YtbcngegcpdppfaaGreatDoorPk5
import Derived.Test.YtbcngegcpdppfaaGreatDoorPk6
import Derived.Test.YtbcngegcpdppfaaGreatDoorPk7
namespace Go.Proofs.YtbcngegcpdppfaaGreatDoor
open Go.AE Go.RowKit

theorem maxLen_of {w : World} (h : w.ShapedOpen Tryz.prog) : ∃ n, w.cell? ⟨0, 0, none⟩ = some (.int .i64 n) :=
  Go.Proofs.cell_of_shapedOpen_int (zero := #[.int .i64 0]) (t := 3) h (of_decide_eq_true (by kernel_rfl)) (by kernel_rfl) rfl (by kernel_rfl) (by kernel_rfl) Tryz.underlying3
/-- what a listed variable's block holds -/
theorem reads_of {P : Program} {w : World} : ∀ {l : List (String × DataW Unit)} {ps : List MemPlace}, DataW.LaidVars P w l ps → ∀ n d, (n, d) ∈ l →
    ∃ g t cs fuel p, P.globalNamed n = some g ∧ (P.globals[g]?).map (·.type) = some t ∧ w.var? P n = some cs ∧ DataW.trod (fun _ => ()) P w 0 (fun _ => true) false fuel t cs.toList = some (d, p)
  | [], _, _, _, _, hm => by cases hm
  | (n', d') :: r, ps, h, n, d, hm => by
    obtain ⟨g, t, cs, fuel, p, q, h1, h2, h3, h4, h5, _⟩ := h
    rcases List.mem_cons.1 hm with e | e
    · cases e
      exact ⟨g, t, cs, fuel, p, h1, h2, h3, h4⟩
    · exact reads_of h5 n d e
theorem iface_of {P : Program} {w : World} {name : String} {g : Nat} {t : TypeId} {ms : Array (String × TypeId)} {l : List (String × DataW Unit)} {d : DataW Unit} (hg : P.globalNamed name = some g) (hty : (P.globals[g]?).map (·.type) = some t) (hu : P.underlying t = some (.interface ms))
    (h : laidMet P l w) (hm : (name, d) ∈ l) : ∃ v, w.cell? ⟨g, 0, none⟩ = some v ∧ (v = .nilIface ∨ ∃ te pe, v = .iface te pe) := by
  obtain ⟨ps, hv, _⟩ := h
  obtain ⟨g', t', cs, fuel, p, h1, h2, h3, h4⟩ := reads_of hv name d hm
  obtain rfl := Option.some.inj (hg.symm.trans h1)
  obtain rfl := Option.some.inj (hty.symm.trans h2)
  have hc := World.var?_cell hg h3 0
  cases fuel with
  | zero => simp [DataW.trod] at h4
  | succ fuel =>
    obtain ⟨l⟩ := cs
    simp only at h4 hc
    match l, h4, hc with
    | [], h4, _ => simp [DataW.trod, hu] at h4
    | [v], h4, hc =>
      refine ⟨v, by simpa using hc, ?_⟩
      cases v <;> simp [DataW.trod, hu] at h4 <;> simp
    | v :: v' :: r, h4, _ => cases v <;> simp [DataW.trod, hu] at h4

/-- what a call finds in the world -/
theorem gfacts_of {w : World} (hs : w.ShapedOpen Tryz.prog) (h : laidMetH Tryz.prog Rows.parsePlacesRow.laid w) : GFacts w := by
  have h' : laidMet Tryz.prog Rows.parsePlacesRow.laid w := h
  refine ⟨trivial, maxLen_of hs, ?_, ?_, ?_⟩
  · exact iface_of (name := "strconv.ErrSyntax") (d := Rows.laid_strconv_ErrSyntax) (t := 85) (by kernel_rfl) (by kernel_rfl) Tryz.underlying85 h' (by simp [Rows.parsePlacesRow])
  · exact iface_of (name := "strconv.ErrRange") (d := Rows.laid_strconv_ErrRange) (t := 85) (by kernel_rfl) (by kernel_rfl) Tryz.underlying85 h' (by simp [Rows.parsePlacesRow])
  · have hf := laidMet.filter (fun x => x.1 == "internal/strconv.uint64pow10") h'
    have e : Rows.parsePlacesRow.laid.filter (fun x => x.1 == "internal/strconv.uint64pow10") = [("internal/strconv.uint64pow10", Lib.tabData .u64 Lib.pow10Tab)] := by kernel_rfl
    rw [e] at hf
    exact Lib.tabIs_of_head (g := 3) (t := 156) (e := 136) (n := 20) (by kernel_rfl) (by kernel_rfl) (by kernel_rfl) (by kernel_rfl) (by kernel_rfl) (by kernel_rfl) hf

/-- the map at a call's beginning: nothing is owned; of the variables' blocks alone nobody writes -/
def mp0 : Mp := ⟨fun _ => 0, isG, fun _ => .absent⟩
theorem st0 {w : World} (hg : GFacts w) (hlt : ∀ b, isG b → b < w.heap.size) : St w mp0 (hp []) :=
  ⟨fun r _ h => h.elim, fun r h => h.elim, fun r h => h.elim, hlt, ⟨fun b h => h, hg⟩, fun r => rfl⟩
theorem lt_of_cell {w : World} {b o : Nat} {v : Value} (h : w.cell? ⟨b, o, none⟩ = some v) : b < w.heap.size := by
  unfold World.cell? at h
  cases hb : w.heap[b]? with
  | none => simp [hb] at h
  | some x => exact (Array.getElem?_eq_some_iff.1 hb).1
theorem isG_lt {w : World} (hg : GFacts w) : ∀ b, isG b → b < w.heap.size := by
  intro b hb
  obtain ⟨n, h1⟩ := hg.maxLen
  obtain ⟨v, h2, _⟩ := hg.errSyntax
  obtain ⟨v', h3, _⟩ := hg.errRange
  have h4 := hg.pow10.cell (g := 3) (by kernel_rfl) 0 (by rw [Lib.pow10Tab_length]; omega)
  rcases hb with hb | hb | hb | hb | hb
  · exact hb.elim
  · subst hb; exact lt_of_cell h1
  · subst hb; exact lt_of_cell h2
  · subst hb; exact lt_of_cell h3
  · subst hb; exact lt_of_cell h4
/-- a call that answers true, at a text: its world, but for new blocks, is as it was -/
theorem calls_true {f : FuncId} {w : World} {Args : Array Value} {args : List AV} (hg : GFacts w) (hV : VL w mp0 args Args) (h : ACalls Tryz.prog f args [] (fun ao _ => ao = .ret (.p (.bool true)))) :
    Calls Tryz.prog f Args w fun e w' => e = .returned (.bool true) ∧ w'.os = w.os ∧ w'.tape = w.tape ∧ w'.output = w.output ∧ w.heap.size ≤ w'.heap.size ∧ ∀ b, b < w.heap.size → w'.heap[b]? = w.heap[b]? := by
  refine (h.2 w mp0 Args (st0 hg (isG_lt hg)) hV).mono fun e w' hR => ?_
  cases e with
  | returned u =>
    obtain ⟨m', a, K', hT, hS, hv, hk⟩ := hR
    injection hk with hk
    subst hk
    refine ⟨?_, hT.os, hT.tape, hT.output, hT.size, fun b hb => hT.out b hb fun r hr => hr.elim⟩
    cases hv with
    | p _ _ h => cases h; rfl
  | panicked ch => obtain ⟨m', a, u, K', _, _, _, _, hk⟩ := hR; cases hk
  | outgrown => exact hR.elim
end Go.Proofs.YtbcngegcpdppfaaGreatDoor

namespace Go.Proofs.YtbcngegcpdppfaaGreatDoor
open Go.AE Go.Ru Go.RowKit Go.ChangeShapes Go.WideShapes Go.ChangeAt Go.ChangeMaps

theorem seat_own : ownKnob Tryz.prog.godebug = none := by kernel_rfl
theorem door_met (os : Os) (args : Array Value) : laidMetH Tryz.prog Rows.parseBracketsRow.laid ((World.doorLaid Tryz.prog 62 os).forCall (fun _ _ => 0) ⟨#[], args, []⟩).memory :=
  laidMetH_of_parts3 (fuel := 8) (laidMet_of_run' 8 (by kernel_rfl) (by kernel_rfl)) (by kernel_rfl) (by kernel_rfl)

set_option maxRecDepth 100000 in
theorem parseBrackets_lifted (os : Os) (started : os.Started) (H : Type) (enc : TypeId × Value → H) :
    ReturnsInHanded {} Tryz.checked os 5 .any (fun w args => (Rows.parseBracketsSpec.pre enc Tryz.prog Tryz.f5 [] false w args ∧ laidMetH Tryz.prog Rows.parseBracketsRow.laid w) ∧ sizedMet enc Tryz.prog Tryz.f5 (OpenSpec.ofChange Rows.parseBracketsSpec) false w args)
      (Rows.parseBracketsSpec.post enc Tryz.prog Tryz.f5 false true false false) := by
  refine returnsInHanded_of_calls (C := Tryz.checked) seat_own started (by kernel_rfl) (ChangeSpec.witness_shaped (enc := enc) (C := Tryz.checked) (os := os) (fn := Tryz.f5) (X := fun w _ => laidMetH Tryz.prog Rows.parseBracketsRow.laid w) false (World.doorLaid Tryz.prog 62 os) #[.string ⟨#[]⟩, .string ⟨#[]⟩, .int .i64 0] 8 rfl (World.shaped_of_RefB (by kernel_rfl) (by kernel_rfl)) (by kernel_rfl) (by kernel_rfl) (by kernel_rfl) (door_met os _)) ?_
  intro w tape i _ hsh _ hok hpre hholds
  obtain ⟨_, _, _, fn', hfn', _, _, _, _, hval0⟩ := hok
  have e : fn' = Tryz.f5 := Option.some.inj (hfn'.symm.trans Tryz.func5)
  subst e
  obtain ⟨⟨⟨ds, gs, before, hw, hc⟩, hx⟩, hz⟩ := hpre
  have hW' := DataW.Whole.of_heap (w' := w.forCall tape i) (by rfl) hw
  have hx' : laidMetH Tryz.prog Rows.parseBracketsRow.laid (w.forCall tape i) := hx.of_heap (by rfl)
  generalize w.forCall tape i = W at hsh hW' hx' hval0 ⊢
  generalize i.args = args at hW' hval0 ⊢
  have hg := gfacts_of hsh hx'
  have hval : ∀ (j : Nat) t v, Tryz.f5.params[j]? = some t → args[j]? = some v → Value.okWide Tryz.prog W .any w.heap.size t v := hval0
  have hW := hW'
  obtain ⟨p, q, hA0, hV0, rfl, hfz, hnd⟩ := hW
  have hA : DataW.TrodAll enc Tryz.prog W 0 (fun _ => true) true Tryz.f5.params.toList args.toList ds p := hA0
  have hV : DataW.TrodVars enc Tryz.prog W (fun _ => true) [] gs q := hV0
  rw [Tryz.params5] at hA hval
  obtain ⟨v0, v1, v2, d0, d1, d2, p0, p1, p2, rfl, rfl, rfl, h0, h1, h2⟩ := trodAll_three hA
  obtain ⟨s, rfl, rfl, rfl, hs⟩ := open_string Tryz.underlying9 (hval 0 9 v0 rfl rfl) h0
  obtain ⟨t, rfl, rfl, rfl, ht⟩ := open_string Tryz.underlying9 (hval 1 9 v1 rfl rfl) h1
  obtain ⟨n, rfl, rfl, rfl, hn⟩ := open_int Tryz.underlying3 (hval 2 3 v2 rfl rfl) h2
  have hin : In63 n := by
    have h3 : IntKind.i64.min = -9223372036854775808 := by decide
    have h4 : IntKind.i64.max = 9223372036854775807 := by decide
    simp only [Lit.wf, Bool.and_eq_true, decide_eq_true_eq, h3, h4] at hn
    exact hn
  obtain ⟨rfl, rfl⟩ : gs = [] ∧ q = [] := by
    cases gs with
    | nil => exact ⟨rfl, hV⟩
    | cons g r => exact absurd hV (by intro h; cases h)
  have hVL : VL W mp0 [.p (.str s.data.toList), .p (.str t.data.toList), .p (.int .i64 n)] #[.string s, .string t, .int .i64 n] := ⟨rfl, fun j hj hj' => by
    rcases j with _ | _ | _ | j
    · exact .p _ _ (.str s _ rfl)
    · exact .p _ _ (.str t _ rfl)
    · exact .p _ _ (.int _ _)
    · simp at hj; omega⟩
  refine (calls_true hg hVL (brackets_calls s.data.toList t.data.toList n hin [] _ rfl)).mono fun e W' ⟨he, h1, h2, h3, h4, h5⟩ => ?_
  subst he
  have hk : W.keptBut W' (fun _ => False) := ⟨h1, h3, fun i hi => by
    rw [h5 i hi]
    cases W.heap[i]? with
    | none => trivial
    | some o => cases o <;> simp⟩
  refine ChangeSpec.post_blind (v := .bool true) ?_
  refine ⟨_, _, _, [], [], [], hW', ?_, ?_, ?_, ?_, fun h => by cases h⟩
  · exact trodAll_mk1 (shut_bool Tryz.underlying4 true)
  · exact trodAll_mk3 (shut_string Tryz.underlying9 hs) (shut_string Tryz.underlying9 ht) (shut_int Tryz.underlying3 hn)
  · rfl
  · exact World.keptBut_mono (fun p hp => hp.elim) hk
end Go.Proofs.YtbcngegcpdppfaaGreatDoor

namespace Go.Proofs.YtbcngegcpdppfaaGreatDoor
open Go

theorem parseBrackets_row : Rows.ParseBracketsSaid :=
  OpenClaim.holds_of_wide 5 Tryz.f5 rfl rfl rfl rfl rfl rfl rfl ⟨rfl, rfl, rfl, rfl, rfl⟩ rfl rfl rfl rfl rfl (by kernel_rfl) Tryz.func5 (by kernel_rfl)
    (of_decide_eq_true (by kernel_rfl)) (by unfold Func.isWrapper; rw [if_neg (of_decide_eq_false (by kernel_rfl))]; exact ⟨rfl, rfl⟩)
    (fun os started H enc _ => parseBrackets_lifted os started H enc)

theorem parseBrackets_card : Rows.ParseBracketsCardSaid :=
  Claim7.holds_tied_plain_at .later [] [.data, .data, .data, .sentinel, .sentinel] true (true, "2a28375363cf41e67b83da84cda164902924dc5bdcf4819147b6e3c9ee6fbfe3") true
    parseBrackets_row (fun _ h => by cases h) (by kernel_rfl) (fun _ h => by cases h) parseBrackets_row_tie rfl ⟨rfl, rfl⟩ (by kernel_rfl) rfl
    (fun f fn hf hfn => by
      obtain rfl : f = 5 := Option.some.inj ((show Tryz.prog.funcNamed "runnel/runnellaw5.ParseBrackets" = some 5 by kernel_rfl).symm.trans hf) |>.symm
      obtain rfl : fn = Tryz.f5 := (Option.some.inj (Tryz.func5.symm.trans hfn)).symm
      exact ⟨by kernel_rfl, fun j t ht => by
        rw [Tryz.params5] at ht
        have h3 : t = 9 ∨ t = 3 := by
          rcases j with _ | _ | _ | j
          · exact .inl (by simpa using ht.symm)
          · exact .inl (by simpa using ht.symm)
          · exact .inr (by simpa using ht.symm)
          · simp at ht
        rcases h3 with h3 | h3
        · subst h3
          exact (show Tryz.prog.wantsStandIn 9 = false by kernel_rfl)
        · subst h3
          exact (show Tryz.prog.wantsStandIn 3 = false by kernel_rfl)⟩)
    (by kernel_rfl)
#print axioms parseBrackets_card
end Go.Proofs.YtbcngegcpdppfaaGreatDoor
