/-
  Parser, part 8: the contracts of the functions that read statements that end with a sign. No statement of the seat is proved here.
-/
import Derived.Test.YtbcngegcpdppfaaGreatDoorPaStmt
namespace Go.Proofs.YtbcngegcpdppfaaGreatDoor
open Go.AE Go.Ru
set_option maxRecDepth 100000
set_option pp.maxSteps 2000

def g9 : AG := gput 158 cCall g8
theorem g9_ok : GOk Tryz.prog g9 := gput_ok call_ok2 g8_ok

def cNamed : AC := fun args K k => ∃ d : Nat, ∃ e ts ns mo op X, args = [pp] ∧ K = encP e ts ns op mo ++ X ∧ op = 40 - (d : Int) ∧ Fine d ts ns ∧
  After e (namedS e d ⟨ts, ns, mo⟩) intV op X k
theorem named_ok : COk 159 cNamed := by
  rintro args K k ⟨d, e, ts, ns, mo, op, X, rfl, rfl, ho, hf, hk⟩
  refine frameP g9_ok 19 rfl fun Q hr hp => ?_
  have hk := hk.ak
  have hf := hf.fin
  have hd := hf.d
  unfold namedS at hk
  conv => whnf
  refine ⟨_, _, _, _, _, _, rfl, rfl, hk.step (ident_le _ _) (fun t ts ns mo hl hk => ?_) (fun a er hb => by ((conv => whnf); exact hp _ _ rfl hb))⟩
  have hf := hf.st hl
  conv => whnf
  refine ⟨_, _, _, _, _, _, _, rfl, rfl, ?_⟩
  conv => whnf
  refine two_intro (fun h => ?_) (fun h => ?_)
  · have h : isS [91] ts = true := h
    simp only [h] at hk
    conv => whnf
    refine ⟨d, _, _, _, _, _, _, rfl, rfl, ho, by omega, hf.fine, hk.step (index_le _ _ _) (fun x ts ns mo hl hk => ?_) (fun a er hb => by ((conv => whnf); exact hp _ _ rfl hb))⟩
    have hf := hf.st hl
    conv => whnf
    refine ⟨_, _, _, _, _, _, _, rfl, rfl, hk.step (want_le _ _ _) (fun _ ts ns mo hl hk => ?_) (fun a er hb => by ((conv => whnf); exact hp _ _ rfl hb))⟩
    have hf := hf.st hl
    conv => whnf
    refine ⟨d, _, _, _, _, _, _, rfl, rfl, ho, hf.fine, hk.step (ex_le _ _ _) (fun y ts ns mo hl hk => ?_) (fun a er hb => by ((conv => whnf); exact hp _ _ rfl hb))⟩
    have hf := hf.st hl
    conv => whnf
    refine ⟨[x, y], _, _, _, _, _, _, _, _, _, _, _, rfl, rfl, PutK.slr hf.sz rfl rfl rfl (allLt_ok ⟨⟨trivial, rfl⟩, rfl⟩) ?_⟩
    conv => whnf
    exact hr _ _ _ _ _ _ rfl rfl hk
  · have h : isS [91] ts = false := h
    simp only [h] at hk
    conv => whnf
    refine ⟨_, _, _, _, _, _, _, rfl, rfl, hk.step (want_le _ _ _) (fun _ ts ns mo hl hk => ?_) (fun a er hb => by ((conv => whnf); exact hp _ _ rfl hb))⟩
    have hf := hf.st hl
    conv => whnf
    refine ⟨_, _, _, _, _, _, _, rfl, rfl, ⟨fun h => ?_, fun h => ?_⟩⟩
    · have h : isS [105, 110] ts = true := h
      simp only [h, dropS] at hk
      conv => whnf
      refine ⟨d, _, _, _, _, _, _, rfl, rfl, (hf.sk h).fine, hk.step (chan_le _ _) (fun x ts2 ns2 mo2 hl hk => ?_) (fun a er hb => by ((conv => whnf); exact hp _ _ rfl hb))⟩
      have hf := (hf.sk h).st hl
      conv => whnf
      refine ⟨[x], _, _, _, _, _, _, _, _, _, _, _, rfl, rfl, PutK.slr hf.sz rfl rfl rfl (allLt_ok ⟨trivial, rfl⟩) ?_⟩
      conv => whnf
      exact hr _ _ _ _ _ _ rfl rfl hk
    have h : isS [105, 110] ts = false := h
    simp only [h] at hk
    conv => whnf
    refine ⟨_, _, _, _, _, _, _, rfl, rfl, ⟨fun h => ?_, fun h => ?_⟩⟩
    · have h : isS [99, 97, 108, 108] ts = true := h
      simp only [h, dropS] at hk
      conv => whnf
      refine ⟨d, _, _, _, _, _, _, _, _, _, rfl, rfl, ho, (hf.sk h).fine, hk.last (fun x ts2 ns2 mo2 hk => ?_) (fun a er hb => by ((conv => whnf); exact hp _ _ rfl hb))⟩
      conv => whnf
      exact hr _ _ _ _ _ _ rfl rfl hk
    have h : isS [99, 97, 108, 108] ts = false := h
    simp only [h] at hk
    conv => whnf
    refine ⟨_, _, _, _, _, _, _, rfl, rfl, ⟨fun h => ?_, fun h => ?_⟩⟩
    · have h : isS [110, 101, 119] ts = true := h
      simp only [h, dropS] at hk
      conv => whnf
      refine ⟨d, _, _, _, _, _, _, rfl, rfl, ho, (hf.sk h).fine, hk.step (ex_le _ _ _) (fun x ts2 ns2 mo2 hl hk => ?_) (fun a er hb => by ((conv => whnf); exact hp _ _ rfl hb))⟩
      have hf := (hf.sk h).st hl
      conv => whnf
      refine ⟨[x], _, _, _, _, _, _, _, _, _, _, _, rfl, rfl, PutK.slr hf.sz rfl rfl rfl (allLt_ok ⟨trivial, rfl⟩) ?_⟩
      conv => whnf
      exact hr _ _ _ _ _ _ rfl rfl hk
    have h : isS [110, 101, 119] ts = false := h
    simp only [h] at hk
    conv => whnf
    refine ⟨d, _, _, _, _, _, _, rfl, rfl, ho, hf.fine, hk.step (ex_le _ _ _) (fun x ts2 ns2 mo2 hl hk => ?_) (fun a er hb => by ((conv => whnf); exact hp _ _ rfl hb))⟩
    have hf := hf.st hl
    conv => whnf
    refine ⟨[x], _, _, _, _, _, _, _, _, _, _, _, rfl, rfl, PutK.slr hf.sz rfl rfl rfl (allLt_ok ⟨trivial, rfl⟩) ?_⟩
    conv => whnf
    exact hr _ _ _ _ _ _ rfl rfl hk

def g10 : AG := gput 159 cNamed g9
theorem g10_ok : GOk Tryz.prog g10 := gput_ok named_ok g9_ok

def cPlain : AC := fun args K k => ∃ d : Nat, ∃ e ts ns mo op X, args = [pp] ∧ K = encP e ts ns op mo ++ X ∧ op = 40 - (d : Int) ∧ Fine d ts ns ∧
  After e (plainS e d ⟨ts, ns, mo⟩) intV op X k
def hdK : List Tok → Int
  | [] => 5
  | t :: _ => t.k.code
def hdN : List Tok → Int
  | [] => 0
  | t :: _ => t.n
def hdT : List Tok → Bs
  | [] => []
  | t :: _ => t.tx
theorem enc_hd (e : Int) (ts : List Tok) : encs e ts (Int.toNat 0) = [.int .i64 (hdK ts), .int .i64 (hdN ts), .int .i64 (hd e ts), .str (hdT ts)] := by cases ts <;> rfl
theorem plain_ok : COk 138 cPlain := by
  rintro args K k ⟨d, e, ts, ns, mo, op, X, rfl, rfl, ho, hf, hk⟩
  refine frameP g10_ok 19 rfl fun Q hr hp => ?_
  have hk := hk.ak
  have hf := hf.fin
  have hd := hf.d
  unfold plainS at hk
  simp only at hk
  conv => whnf
  refine ⟨by simp <;> omega, ?_⟩
  conv => whnf
  rw [enc_hd]
  conv => whnf
  refine ⟨_, _, _, _, _, _, _, rfl, rfl, ⟨fun h => ?_, fun h => ?_⟩⟩
  · have h : isS [111, 117, 116] ts = true := h
    simp only [h, dropS] at hk
    conv => whnf
    refine ⟨d, _, _, _, _, _, _, rfl, rfl, (hf.sk h).fine, hk.step (chan_le _ _) (fun c ts2 ns2 mo2 hl hk => ?_) (fun a er hb => by ((conv => whnf); exact hp _ _ rfl hb))⟩
    have hf := (hf.sk h).st hl
    conv => whnf
    refine ⟨d, _, _, _, _, _, _, rfl, rfl, ho, hf.fine, hk.step (ex_le _ _ _) (fun x ts3 ns3 mo3 hl hk => ?_) (fun a er hb => by ((conv => whnf); exact hp _ _ rfl hb))⟩
    have hf := hf.st hl
    conv => whnf
    refine ⟨[c, x], _, _, _, _, _, _, _, _, _, _, _, rfl, rfl, PutK.slr hf.sz rfl rfl rfl (allLt_ok ⟨⟨trivial, rfl⟩, rfl⟩) ?_⟩
    conv => whnf
    exact hr _ _ _ _ _ _ rfl rfl hk
  have h : isS [111, 117, 116] ts = false := h
  simp only [h] at hk
  conv => whnf
  refine ⟨_, _, _, _, _, _, _, rfl, rfl, ⟨fun h => ?_, fun h => ?_⟩⟩
  · have h : isS [99, 97, 108, 108] ts = true := h
    simp only [h, dropS] at hk
    conv => whnf
    refine ⟨d, _, _, _, _, _, _, _, _, _, rfl, rfl, ho, (hf.sk h).fine, hk.last (fun x ts2 ns2 mo2 hk => ?_) (fun a er hb => by ((conv => whnf); exact hp _ _ rfl hb))⟩
    conv => whnf
    exact hr _ _ _ _ _ _ rfl rfl hk
  have h : isS [99, 97, 108, 108] ts = false := h
  simp only [h] at hk
  conv => whnf
  refine ⟨_, _, _, _, _, _, _, rfl, rfl, ⟨fun h => ?_, fun h => ?_⟩⟩
  · have h : isS [116, 104, 114, 111, 119] ts = true := h
    simp only [h, dropS] at hk
    conv => whnf
    refine ⟨d, _, _, _, _, _, _, rfl, rfl, ho, (hf.sk h).fine, hk.step (ex_le _ _ _) (fun x ts2 ns2 mo2 hl hk => ?_) (fun a er hb => by ((conv => whnf); exact hp _ _ rfl hb))⟩
    have hf := (hf.sk h).st hl
    conv => whnf
    refine ⟨[x], _, _, _, _, _, _, _, _, _, _, _, rfl, rfl, PutK.slr hf.sz rfl rfl rfl (allLt_ok ⟨trivial, rfl⟩) ?_⟩
    conv => whnf
    exact hr _ _ _ _ _ _ rfl rfl hk
  have h : isS [116, 104, 114, 111, 119] ts = false := h
  simp only [h] at hk
  conv => whnf
  refine ⟨_, _, _, _, _, _, _, rfl, rfl, ⟨fun h => ?_, fun h => ?_⟩⟩
  · have h : isS [114, 101, 116, 117, 114, 110] ts = true := h
    simp only [h, dropS] at hk
    have hf := hf.sk h
    conv => whnf
    refine ⟨_, _, _, _, _, _, _, rfl, rfl, ?_⟩
    conv => whnf
    refine two_intro (fun h => ?_) (fun h => ?_)
    · have h : isS [59] ts.tail = true := h
      simp only [h] at hk
      conv => whnf
      refine ⟨[], _, _, _, _, _, _, _, _, _, _, _, rfl, rfl, PutK.nils hf.sz ?_⟩
      conv => whnf
      exact hr _ _ _ _ _ _ rfl rfl hk
    · have h : isS [59] ts.tail = false := h
      simp only [h] at hk
      conv => whnf
      refine ⟨d, _, _, _, _, _, _, rfl, rfl, ho, hf.fine, hk.step (ex_le _ _ _) (fun x ts2 ns2 mo2 hl hk => ?_) (fun a er hb => by ((conv => whnf); exact hp _ _ rfl hb))⟩
      have hf := hf.st hl
      conv => whnf
      refine ⟨[x], _, _, _, _, _, _, _, _, _, _, _, rfl, rfl, PutK.slr hf.sz rfl rfl rfl (allLt_ok ⟨trivial, rfl⟩) ?_⟩
      conv => whnf
      exact hr _ _ _ _ _ _ rfl rfl hk
  have h : isS [114, 101, 116, 117, 114, 110] ts = false := h
  simp only [h] at hk
  conv => whnf
  refine ⟨d, _, _, _, _, _, _, rfl, rfl, ho, hf.fine, hk.last (fun x ts2 ns2 mo2 hk => ?_) (fun a er hb => by ((conv => whnf); exact hp _ _ rfl hb))⟩
  conv => whnf
  exact hr _ _ _ _ _ _ rfl rfl hk
end Go.Proofs.YtbcngegcpdppfaaGreatDoor
