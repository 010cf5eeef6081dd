/- WALKS: the program's KingAt, Checked, Right, passant. -/
import Derived.Test.YthffhhbbhjcdeaaGreatDoorC3
import Derived.Test.YthffhhbbhjcdeaaGreatDoorA15
set_option linter.unusedVariables false
set_option linter.unusedSimpArgs false
namespace Go.Proofs.YthffhhbbhjcdeaaGreatDoor
open Go.RowKit
set_option maxRecDepth 100000

set_option maxHeartbeats 1000000 in
theorem indexP_any (b off cap : Nat) (L : Nat → Int) (n : Int) (k : Nat) (w : World) (hk : k < 64) (hbr : Brd w b off L) (hn : L k = n) (hmin : ∀ i, i < k → L i ≠ n) :
    Calls Tryz.prog 117 #[.slice (some ⟨b, off, none⟩) 64 cap, .int .i64 n] w (RetW (.int .i64 k) w) := by
  have Hn := Lib.hid hn
  have Hmin := Lib.hid hmin
  clear hn hmin
  go_enter Tryz.func117, Tryz.ntmps117
  go_wp2
  go_loopg [8] k (fun g s8 wx => w = wx ∧ ∃ j : Nat, j ≤ k ∧ g = k - j ∧ s8 = .int .i64 j)
  case atStart => exact ⟨rfl, 0, Nat.zero_le _, rfl, rfl⟩
  case round =>
    obtain ⟨rfl, j, hj, hg, rfl⟩ := hrel
    have Hg := Lib.hid hg
    clear hg
    have hcj := hbr.cell j (by omega)
    by_cases hjk : j = k
    · have hq : (n == L j) = true := by rw [hjk, Hn.out]; simp
      have Hjk := Lib.hid hjk
      clear hjk
      go_wp2
      go_ret
      exact ⟨by rw [Hjk.out]; rfl, rfl⟩
    · have hq : (n == L j) = false := by simpa using fun h => Hmin.out j (by omega) h.symm
      go_wp2
      go_roundg (k - (j + 1))
      case measure => have := Hg.out; omega
      case rel => exact ⟨rfl, j + 1, by omega, rfl, by go_num⟩

theorem kingAtP_any (b off cap : Nat) (L : Nat → Int) (side : Int) (w : World) (hs : side = 0 ∨ side = 1) (hbr : Brd w b off L) (hk : HasKing L side) :
    Calls Tryz.prog 94 #[.slice (some ⟨b, off, none⟩) 64 cap, .int .i64 side] w (RetW (.int .i64 (kingIx L side)) w) := by
  obtain ⟨hk1, hk2, hk3⟩ := kingIx_spec hk
  go_enter Tryz.func94, Tryz.ntmps94
  go_wp2_with (first
    | (go_at_call 63; refine (forwardP_any _ _ (by omega) (by omega)).mono ?_; rintro e w' ⟨rfl, rfl⟩)
    | (go_at_call 117; refine (indexP_any b off cap L _ (kingIx L side) _ hk1 hbr hk2 hk3).mono ?_; rintro e w' ⟨rfl, rfl⟩))
  go_ret
  exact ⟨rfl, rfl⟩

set_option maxHeartbeats 1000000 in
theorem checkedP_any (b off cap : Nat) (L : Nat → Int) (side : Int) (w : World) (hs : side = 0 ∨ side = 1) (hbr : Brd w b off L) (hk : HasKing L side) :
    Calls Tryz.prog 61 #[.slice (some ⟨b, off, none⟩) 64 cap, .int .i64 side] w (RetB (.bool (inCheckB L side)) w) := by
  obtain ⟨hk1, hk2, hk3⟩ := kingIx_spec hk
  have Hs := Lib.hid hs
  unfold inCheckB
  go_enter Tryz.func61, Tryz.ntmps61
  go_wp2_with (first
    | (go_at_call 94; refine (kingAtP_any b off cap L side _ hs hbr hk).mono ?_; rintro e w' ⟨rfl, rfl⟩)
    | (go_at_call 93; refine (attackersP_any b off cap L (kingIx L side) _ _ hk1 hbr).mono ?_; rintro e w1 ⟨a, cp, rfl, hb1⟩))
  go_ret
  exact ⟨rfl, hb1⟩

def homeI (n : Nat) : Int := if n / 2 = 0 then 4 else 60
def tourI (n : Nat) : Int := if n = 0 then 7 else if n = 1 then 0 else if n = 2 then 63 else 56
theorem rightP_any (n : Nat) (w : World) (hn : n < 4) : Calls Tryz.prog 62 #[.int .i64 n] w (RetW (.tuple #[.int .i64 (homeN n : Nat), .int .i64 (tourN n : Nat)]) w) := by
  match n, hn with
  | 0, _ | 1, _ | 2, _ | 3, _ =>
    go_enter Tryz.func62, Tryz.ntmps62
    go_wp2
    go_ret2
    exact ⟨by kernel_rfl, rfl⟩

end Go.Proofs.YthffhhbbhjcdeaaGreatDoor
