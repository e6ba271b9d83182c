/-
  Parser, part 10: all statements by depth; declarations. No statement of the seat is proved here.
-/
import Derived.Test.YtbcngegcpdppfaaGreatDoorPaBlock
namespace Go.Proofs.YtbcngegcpdppfaaGreatDoor
open Go.AE Go.Ru
set_option maxRecDepth 100000
set_option pp.maxSteps 2000

theorem stmtS_eq (e : Int) (d : Nat) (s : PS) : stmtS e d s = stmtB e d (inStmtS e d) s := by cases d <;> rfl
theorem blk_le (e : Int) (d : Nat) : Dm 3 1 (blockB e d (inStmtS e d)) := block_le e d ((inStmt_le e d).weak (by omega) (by omega))

theorem stmt_step {D : Nat} (hB : COk 137 (cBlock D)) : COk 119 (cStmt (D + 1)) := by
  rintro args K k ⟨d, e, ts, ns, mo, op, X, rfl, rfl, ho, hd, hf, hk⟩
  refine frameP (G := gput 137 (cBlock D) g11) (gput_ok hB g11_ok) 19 rfl fun Q hr hp => ?_
  rw [stmtS_eq] at hk
  have hk := hk.ak
  have hf := hf.fin
  unfold stmtB at hk
  simp only at hk
  conv => whnf
  refine ⟨by simp <;> omega, ?_⟩
  conv => whnf
  rw [enc_hd]
  conv => whnf
  refine ⟨_, _, _, _, _, _, _, rfl, rfl, ⟨fun h => ?_, fun h => ?_⟩⟩
  · have h : isS [105, 102] ts = true := h
    simp only [h, dropS] at hk
    conv => whnf
    refine ⟨d, _, _, _, _, _, _, rfl, rfl, ho, (hf.sk h).fine, hk.step (ex_le _ _ _) (fun x ts2 ns2 mo2 hl hk => ?_) (fun a er hb => by ((conv => whnf); exact hp _ _ rfl hb))⟩
    have hf := (hf.sk h).st hl
    conv => whnf
    refine ⟨d, _, _, _, _, _, _, rfl, rfl, ho, by omega, hf.fine, hk.step (blk_le _ _ _) (fun a ts3 ns3 mo3 hl hk => ?_) (fun a er hb => by ((conv => whnf); exact hp _ _ rfl hb))⟩
    have hf := hf.st hl
    conv => whnf
    refine ⟨_, _, _, _, _, _, _, rfl, rfl, ⟨fun h => ?_, fun h => ?_⟩⟩
    · have h : isS [101, 108, 115, 101] ts3 = true := h
      simp only [h] at hk
      conv => whnf
      refine ⟨d, _, _, _, _, _, _, rfl, rfl, ho, by omega, (hf.sk h).fine, hk.step (blk_le _ _ _) (fun b ts4 ns4 mo4 hl hk => ?_) (fun a er hb => by ((conv => whnf); exact hp _ _ rfl hb))⟩
      have hf := (hf.sk h).st hl
      conv => whnf
      refine ⟨[x, a, b], _, _, _, _, _, _, _, _, _, _, _, rfl, rfl, PutK.slr hf.sz rfl rfl rfl (allLt_ok ⟨⟨⟨trivial, rfl⟩, rfl⟩, rfl⟩) ?_⟩
      conv => whnf
      exact hr _ _ _ _ _ _ rfl rfl hk
    · have h : isS [101, 108, 115, 101] ts3 = false := h
      simp only [h] at hk
      conv => whnf
      refine ⟨[], _, _, _, _, _, _, _, _, _, _, _, rfl, rfl, PutK.nils hf.sz ?_⟩
      have hf := hf.pt (n := ⟨6, 0, Ru.hd e ts, [], []⟩)
      conv => whnf
      refine ⟨[x, a, ns3.length], _, _, _, _, _, _, _, _, _, _, _, rfl, rfl, PutK.slr hf.sz rfl rfl rfl (allLt_ok ⟨⟨⟨trivial, rfl⟩, rfl⟩, rfl⟩) ?_⟩
      conv => whnf
      exact hr _ _ _ _ _ _ rfl rfl hk
  have h : isS [105, 102] ts = false := h
  simp only [h] at hk
  conv => whnf
  refine ⟨_, _, _, _, _, _, _, rfl, rfl, ⟨fun h => ?_, fun h => ?_⟩⟩
  · have h : isS [119, 104, 105, 108, 101] ts = true := h
    simp only [h, dropS] at hk
    conv => whnf
    refine ⟨d, _, _, _, _, _, _, rfl, rfl, ho, (hf.sk h).fine, hk.step (ex_le _ _ _) (fun x ts2 ns2 mo2 hl hk => ?_) (fun a er hb => by ((conv => whnf); exact hp _ _ rfl hb))⟩
    have hf := (hf.sk h).st hl
    conv => whnf
    refine ⟨d, _, _, _, _, _, _, rfl, rfl, ho, by omega, hf.fine, hk.step (blk_le _ _ _) (fun a ts3 ns3 mo3 hl hk => ?_) (fun a er hb => by ((conv => whnf); exact hp _ _ rfl hb))⟩
    have hf := hf.st hl
    conv => whnf
    refine ⟨[x, a], _, _, _, _, _, _, _, _, _, _, _, rfl, rfl, PutK.slr hf.sz rfl rfl rfl (allLt_ok ⟨⟨trivial, rfl⟩, rfl⟩) ?_⟩
    conv => whnf
    exact hr _ _ _ _ _ _ rfl rfl hk
  have h : isS [119, 104, 105, 108, 101] ts = false := h
  simp only [h] at hk
  conv => whnf
  refine ⟨_, _, _, _, _, _, _, rfl, rfl, ⟨fun h => ?_, fun h => ?_⟩⟩
  · have h : isS [116, 114, 121] ts = true := h
    simp only [h, dropS] at hk
    conv => whnf
    refine ⟨d, _, _, _, _, _, _, rfl, rfl, ho, by omega, (hf.sk h).fine, hk.step (blk_le _ _ _) (fun a ts2 ns2 mo2 hl hk => ?_) (fun a er hb => by ((conv => whnf); exact hp _ _ rfl hb))⟩
    have hf := (hf.sk h).st hl
    conv => whnf
    refine ⟨_, _, _, _, _, _, _, rfl, rfl, hk.step (want_le _ _ _) (fun _ ts3 ns3 mo3 hl hk => ?_) (fun a er hb => by ((conv => whnf); exact hp _ _ rfl hb))⟩
    have hf := hf.st hl
    conv => whnf
    refine ⟨_, _, _, _, _, _, rfl, rfl, hk.step (ident_le _ _) (fun t ts4 ns4 mo4 hl hk => ?_) (fun a er hb => by ((conv => whnf); exact hp _ _ rfl hb))⟩
    have hf := hf.st hl
    conv => whnf
    refine ⟨d, _, _, _, _, _, _, rfl, rfl, ho, by omega, hf.fine, hk.step (blk_le _ _ _) (fun b ts5 ns5 mo5 hl hk => ?_) (fun a er hb => by ((conv => whnf); exact hp _ _ rfl hb))⟩
    have hf := hf.st hl
    conv => whnf
    refine ⟨[a, b], _, _, _, _, _, _, _, _, _, _, _, rfl, rfl, PutK.slr hf.sz rfl rfl rfl (allLt_ok ⟨⟨trivial, rfl⟩, rfl⟩) ?_⟩
    conv => whnf
    exact hr _ _ _ _ _ _ rfl rfl hk
  have h : isS [116, 114, 121] ts = false := h
  simp only [h] at hk
  conv => whnf
  refine ⟨d, _, _, _, _, _, _, rfl, rfl, ho, hf.fine, hk.step (plain_le _ _ _) (fun x ts2 ns2 mo2 hl hk => ?_) (fun a er hb => by ((conv => whnf); exact hp _ _ rfl hb))⟩
  have hf := hf.st hl
  conv => whnf
  refine ⟨_, _, _, _, _, _, _, rfl, rfl, hk.step (want_le _ _ _) (fun _ ts3 ns3 mo3 hl hk => ?_) (fun a er hb => by ((conv => whnf); exact hp _ _ rfl hb))⟩
  conv => whnf
  exact hr _ _ _ _ _ _ rfl rfl hk

theorem stmt_ok (D : Nat) : COk 119 (cStmt D) := by
  induction D with
  | zero =>
    rintro args K k ⟨d, e, ts, ns, mo, op, X, -, -, -, h, -⟩
    omega
  | succ D ih => exact stmt_step (block_ok ih)

def cTyped : AC := fun args K k => ∃ d : Nat, ∃ e ts ns mo op kd at_ tx X, args = [pp, .agg [.p (.int .i64 kd), .p (.int .i64 0), .p (.int .i64 at_), .p (.str tx), .p .nils]] ∧ K = encP e ts ns op mo ++ X ∧ Fine d ts ns ∧
  After e (typedS e kd at_ tx ⟨ts, ns, mo⟩) intV op X k
theorem typed_ok : COk 81 cTyped := by
  rintro args K k ⟨d, e, ts, ns, mo, op, kd, at_, tx, X, rfl, rfl, hf, hk⟩
  refine frameP g7_ok 19 rfl fun Q hr hp => ?_
  have hk := hk.ak
  have hf := hf.fin
  unfold typedS at hk
  conv => whnf
  refine ⟨_, _, _, _, _, _, rfl, rfl, ?_⟩
  conv => whnf
  refine two_intro (fun h => ?_) (fun h => ?_)
  · have h : (typesS ts == 0) = true := h
    simp only [h] at hk
    have hb := hk
    conv => whnf
    refine ⟨_, _, _, _, _, _, _, rfl, rfl, ?_⟩
    ((conv => whnf); exact hp _ _ rfl hb)
  · have h : (typesS ts == 0) = false := h
    simp only [h] at hk
    obtain ⟨t, r, rfl⟩ : ∃ t r, ts = t :: r := by
      cases ts with
      | nil => simp [typesS, isS] at h
      | cons t r => exact ⟨t, r, rfl⟩
    conv => whnf
    refine ⟨_, _, _, _, _, _, _, rfl, rfl, ?_⟩
    conv => whnf
    refine ⟨[], _, _, _, _, _, _, _, _, _, _, _, rfl, rfl, PutK.nils hf.sz ?_⟩
    conv => whnf
    exact hr _ _ _ _ _ _ rfl rfl hk
end Go.Proofs.YtbcngegcpdppfaaGreatDoor
