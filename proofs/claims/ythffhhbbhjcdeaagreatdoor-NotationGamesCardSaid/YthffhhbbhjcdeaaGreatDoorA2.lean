/- WALKS: the reference's at, AttackersOf, InCheck. WALKS: the reference's mayGo. -/
import Derived.Test.YthffhhbbhjcdeaaGreatDoorA
set_option linter.unusedVariables false
set_option linter.unusedSimpArgs false
namespace Go.Proofs.YthffhhbbhjcdeaaGreatDoor
open Go.RowKit
set_option maxRecDepth 100000

set_option maxHeartbeats 1000000 in
theorem at_any (b off cap : Nat) (L : Nat → Int) (n : Int) (k : Nat) (w : World) (hk : k < 64) (hbr : Brd w b off L) (hn : L k = n) (hmin : ∀ i, i < k → L i ≠ n) :
    Calls Tryz.prog 56 #[.slice (some ⟨b, off, none⟩) 64 cap, .int .i64 n] w (RetW (.int .i64 k) w) := by
  have Hn := Lib.hid hn
  have Hmin := Lib.hid hmin
  clear hn hmin
  go_enter Tryz.func56, Tryz.ntmps56
  go_wp2
  go_loopg [5] k (fun g s5 wx => w = wx ∧ ∃ j : Nat, j ≤ k ∧ g = k - j ∧ s5 = .int .i64 j)
  case atStart => exact ⟨rfl, 0, Nat.zero_le _, rfl, rfl⟩
  case round =>
    obtain ⟨rfl, j, hj, hg, rfl⟩ := hrel
    have Hg := Lib.hid hg
    clear hg
    have hcj := hbr.cell j (by omega)
    by_cases hjk : j = k
    · have hq : (L j == n) = true := by rw [hjk, Hn.out]; simp
      have Hjk := Lib.hid hjk
      clear hjk
      go_wp2
      go_ret
      exact ⟨by rw [Hjk.out]; rfl, rfl⟩
    · have hq : (L j == n) = false := by simpa using Hmin.out j (by omega)
      go_wp2
      go_roundg (k - (j + 1))
      case measure => have := Hg.out; omega
      case rel => exact ⟨rfl, j + 1, by omega, rfl, by go_num⟩

set_option maxHeartbeats 2000000 in
theorem attackersOf_any (b off cap : Nat) (L : Nat → Int) (tg : Nat) (by' : Int) (w : World) (ht : tg < 64) (hbr : Brd w b off L) :
    Calls Tryz.prog 55 #[.slice (some ⟨b, off, none⟩) 64 cap, .int .i64 tg, .int .i64 by'] w fun e w' =>
      ∃ a cp, e = .returned (.slice a (attackersL L tg by' 64).length cp) ∧ Below w.heap.size w w' := by
  obtain ⟨i0, hi, hz0, hz1, hz2⟩ := info_parts Tryz.info3
  go_enter Tryz.func55, Tryz.ntmps55
  go_wp2
  go_loopg [7, 8] 64 (fun g s7 s8 wr => ∃ k : Nat, k ≤ 64 ∧ g = 64 - k ∧ s8 = .int .i64 k ∧ wr.ownsRow w.heap.size 3 1 s7 (attackersL L tg by' k).length ((attackersL L tg by' k).map (Value.int .i64)) ∧ Below w.heap.size w wr)
  case atStart => exact ⟨0, by omega, rfl, rfl, World.ownsRow_nil _ _ _ _, Below.refl _ _⟩
  case round =>
    obtain ⟨k, hk, hg, rfl, hown, hbel⟩ := hrel
    have Hg := Lib.hid hg
    clear hg
    by_cases hlt : k < 64
    · have hbw := hbr.below hbel hbr.lt
      have hck := hbw.cell k hlt
      have hle := attackersL_le L tg by' k
      cases h1 : (sideR (L k) == by')
      case false =>
        go_wp2_with (first
          | (go_at_call 29; refine (pieceSide_any _ _).mono ?_; rintro e w' ⟨rfl, rfl⟩))
        go_roundg (64 - (k + 1))
        case measure => have := Hg.out; omega
        case rel => exact ⟨k + 1, by omega, rfl, by go_num, by rw [attackersL_no _ _ _ _ (by simp [h1])]; exact hown, hbel⟩
      case true =>
        cases h2 : attacksB L k tg
        case false =>
          go_wp2_with (first
            | (go_at_call 29; refine (pieceSide_any _ _).mono ?_; rintro e w' ⟨rfl, rfl⟩)
            | (go_at_call 58; refine (attacks_any b off cap L k tg _ hlt ht hbw).mono ?_; rintro e w' ⟨rfl, rfl⟩))
          go_roundg (64 - (k + 1))
          case measure => have := Hg.out; omega
          case rel => exact ⟨k + 1, by omega, rfl, by go_num, by rw [attackersL_no _ _ _ _ (by simp [h1, h2])]; exact hown, hbel⟩
        case true =>
          go_wp2_with (first
            | (go_at_call 29; refine (pieceSide_any _ _).mono ?_; rintro e w' ⟨rfl, rfl⟩)
            | (go_at_call 58; refine (attacks_any b off cap L k tg _ hlt ht hbw).mono ?_; rintro e w' ⟨rfl, rfl⟩)
            | (at_builtin; refine wpList_append_own _ rfl _ _ 22 rfl w.heap.size 3 i0 (.int .i64 0) 1 8 Tryz.underlying22 hi hz0 hz1 hz2 rfl (by decide) _ _ _ rfl (hown.alloc _) ⟨wr.heap.size, 0, none⟩ 1 1 [.int .i64 k] rfl rfl ?c1 ?c2 ?c3 ?c4 ?c5 ?_))
          case c1 => exact one_new _ _ _
          case c2 => intro u hu; simp at hu; subst hu; rfl
          case c3 => unfold maxLen; omega
          case c4 => omega
          case c5 => have := hbel.size; simp; omega
          intro v' w1 hown' hgrow _
          have hb1 : Below w.heap.size w w1 := (hbel.alloc hbel.size _).grown hgrow (by have := hbel.size; simp; omega) (fun j hj => (hown.lt j hj).1)
          clear hgrow hown
          go_wp2
          go_roundg (64 - (k + 1))
          case measure => have := Hg.out; omega
          case rel => exact ⟨k + 1, by omega, rfl, by go_num, by rw [attackersL_yes _ _ _ _ (by simp [h1, h2])]; simpa using hown', hb1⟩
    · have hk64 : k = 64 := by omega
      subst hk64
      go_wp2
      go_ret
      obtain ⟨hl, hr⟩ := hown
      rcases hr with ⟨rfl, h0⟩ | ⟨g, cp, cur, rfl, _⟩
      · exact ⟨none, 0, by rw [h0]; rfl, hbel⟩
      · exact ⟨_, cp, rfl, hbel⟩

theorem sideSign_any (s : Int) (w : World) (h1 : -4 ≤ s) (h2 : s ≤ 4) : Calls Tryz.prog 57 #[.int .i64 s] w (RetW (.int .i64 (1 - 2 * s)) w) := by
  go_enter Tryz.func57, Tryz.ntmps57
  go_wp2
  go_ret
  exact ⟨rfl, rfl⟩

set_option maxHeartbeats 1000000 in
theorem inCheck_any (b off cap : Nat) (L : Nat → Int) (side : Int) (w : World) (hs : side = 0 ∨ side = 1) (hbr : Brd w b off L) (hk : HasKing L side) :
    Calls Tryz.prog 27 #[.slice (some ⟨b, off, none⟩) 64 cap, .int .i64 side] w (RetB (.bool (inCheckB L side)) w) := by
  obtain ⟨hk1, hk2, hk3⟩ := kingIx_spec hk
  unfold inCheckB
  generalize kingIx L side = k at *
  rcases hs with rfl | rfl
  all_goals
    go_enter Tryz.func27, Tryz.ntmps27
    go_wp2_with (first
      | (go_at_call 56; refine (at_any b off cap L _ k _ hk1 hbr hk2 hk3).mono ?_; rintro e w' ⟨rfl, rfl⟩)
      | (go_at_call 55; refine (attackersOf_any b off cap L k _ _ hk1 hbr).mono ?_; rintro e w1 ⟨a, cp, rfl, hb1⟩))
    go_ret
    exact ⟨by simp, hb1⟩

end Go.Proofs.YthffhhbbhjcdeaaGreatDoor
namespace Go.Proofs.YthffhhbbhjcdeaaGreatDoor
open Go.RowKit
set_option maxRecDepth 100000

set_option maxHeartbeats 2000000 in
theorem mayGo_any (b off cap : Nat) (p : Pos) (fr tg : Nat) (w : World) (hf : fr < 64) (ht : tg < 64) (hbr : Brd w b off p.L) (hs : p.turn = 0 ∨ p.turn = 1) :
    Calls Tryz.prog 30 #[chessV b off cap p, .int .i64 fr, .int .i64 tg] w (RetB (.bool (mayGoB p fr tg)) w) := by
  have hcf := hbr.cell_alloc fr hf
  have hct := hbr.cell_alloc tg ht
  have hb1 := hbr.alloc
  have hx1 := (hbr.bd fr).1
  have hx2 := (hbr.bd fr).2
  have hy1 := (hbr.bd tg).1
  have hy2 := (hbr.bd tg).2
  obtain ⟨L, turn, castle, ep, half, full⟩ := p
  simp only [chessV] at *
  rcases hs with rfl | rfl
  · cases q1 : ((fr : Int) / 8 == 1)
    case true =>
      have hlt : fr + 16 < 64 := by simp at q1; omega
      have c16 := hbr.cell_alloc (fr + 16) hlt
      have c8 := hbr.cell_alloc (fr + 8) (by omega)
      have e8 : ((fr : Int) + 8).toNat = fr + 8 := by omega
      go_enter Tryz.func30, Tryz.ntmps30
      go_wp2_with (first | (go_at_call 57; refine (sideSign_any _ _ (by omega) (by omega)).mono ?_; rintro e w' ⟨rfl, rfl⟩) | (go_at_call 58; refine (attacks_any b off cap L fr tg _ hf ht (hb1 _)).mono ?_; rintro e w' ⟨rfl, rfl⟩))
      all_goals (go_ret; (by_cases h9 : tg = fr + 16) <;> first | (exfalso; omega) | (try subst h9); exact ⟨by simp_all [mayGoB], (Below.refl _ _).alloc (Nat.le_refl _) _⟩)
    case false =>
      go_enter Tryz.func30, Tryz.ntmps30
      go_wp2_with (first | (go_at_call 57; refine (sideSign_any _ _ (by omega) (by omega)).mono ?_; rintro e w' ⟨rfl, rfl⟩) | (go_at_call 58; refine (attacks_any b off cap L fr tg _ hf ht (hb1 _)).mono ?_; rintro e w' ⟨rfl, rfl⟩))
      all_goals (go_ret; (by_cases h9 : tg = fr + 16) <;> first | (exfalso; omega) | (try subst h9); exact ⟨by simp_all [mayGoB], (Below.refl _ _).alloc (Nat.le_refl _) _⟩)
  · cases q1 : ((fr : Int) / 8 == 6)
    case true =>
      have hge : 48 ≤ fr := by simp at q1; omega
      have c16 := hbr.cell_alloc ((fr : Int) + -16).toNat (by omega)
      have c8 := hbr.cell_alloc ((fr : Int) + -8).toNat (by omega)
      go_enter Tryz.func30, Tryz.ntmps30
      go_wp2_with (first | (go_at_call 57; refine (sideSign_any _ _ (by omega) (by omega)).mono ?_; rintro e w' ⟨rfl, rfl⟩) | (go_at_call 58; refine (attacks_any b off cap L fr tg _ hf ht (hb1 _)).mono ?_; rintro e w' ⟨rfl, rfl⟩))
      all_goals (go_ret; (by_cases h9 : tg = ((fr : Int) + -16).toNat) <;> first | (exfalso; omega) | (try subst h9); exact ⟨by simp_all [mayGoB], (Below.refl _ _).alloc (Nat.le_refl _) _⟩)
    case false =>
      go_enter Tryz.func30, Tryz.ntmps30
      go_wp2_with (first | (go_at_call 57; refine (sideSign_any _ _ (by omega) (by omega)).mono ?_; rintro e w' ⟨rfl, rfl⟩) | (go_at_call 58; refine (attacks_any b off cap L fr tg _ hf ht (hb1 _)).mono ?_; rintro e w' ⟨rfl, rfl⟩))
      all_goals (go_ret; (by_cases h9 : tg = ((fr : Int) + -16).toNat) <;> first | (exfalso; omega) | (try subst h9); exact ⟨by simp_all [mayGoB], (Below.refl _ _).alloc (Nat.le_refl _) _⟩)

end Go.Proofs.YthffhhbbhjcdeaaGreatDoor
