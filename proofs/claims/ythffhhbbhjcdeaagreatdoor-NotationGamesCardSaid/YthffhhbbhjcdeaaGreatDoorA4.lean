/- WALKS: the reference's castleTo. -/
import Derived.Test.YthffhhbbhjcdeaaGreatDoorA2
set_option linter.unusedVariables false
set_option linter.unusedSimpArgs false
namespace Go.Proofs.YthffhhbbhjcdeaaGreatDoor
open Go.RowKit
set_option maxRecDepth 100000

theorem castle_full {p : Pos} {n : Nat} (hE : ¬ (p.castle / 2 ^ n % 2 = 0 ∨ ((n / 2 : Nat) : Int) ≠ p.turn)) (x : Nat) (hx : x ∈ betweenN n) (hL : ¬ p.L x = 0) : castleToI p n = -1 := by
  unfold castleToI
  rw [if_neg hE, if_pos]
  rw [List.any_eq_true]
  exact ⟨x, hx, by simpa using hL⟩
theorem castle_free {L : Nat → Int} {n : Nat} (h : ∀ x, x ∈ betweenN n → L x = 0) : ((betweenN n).any fun k => L k != 0) = false := by
  rw [List.any_eq_false]
  intro x hx
  simp [h x hx]
theorem castle_hit {p : Pos} {n : Nat} (hE : ¬ (p.castle / 2 ^ n % 2 = 0 ∨ ((n / 2 : Nat) : Int) ≠ p.turn)) (hF : ((betweenN n).any fun k => p.L k != 0) = false) (k : Nat) (hk : k < 3) (hs : safeN p n k = false) : castleToI p n = -1 := by
  unfold castleToI
  rw [if_neg hE, hF, if_neg (by decide), if_pos]
  have : k = 0 ∨ k = 1 ∨ k = 2 := by omega
  rcases this with rfl | rfl | rfl <;> simp [hs]
theorem castle_yes {p : Pos} {n : Nat} (hE : ¬ (p.castle / 2 ^ n % 2 = 0 ∨ ((n / 2 : Nat) : Int) ≠ p.turn)) (hF : ((betweenN n).any fun k => p.L k != 0) = false) (hs : ∀ j, j < 3 → safeN p n j = true) : castleToI p n = kingN n + 2 * wayN n := by
  unfold castleToI
  rw [if_neg hE, hF, if_neg (by decide), hs 0 (by omega), hs 1 (by omega), hs 2 (by omega), if_neg (by decide)]

set_option maxHeartbeats 4000000 in
theorem castleTo_0 (b off cap : Nat) (L : Nat → Int) (castle ep half full : Int) (w : World) (hbr : Brd w b off L) (hc0 : 0 ≤ castle) (hc1 : castle < 16) :
    Calls Tryz.prog 31 #[chessV b off cap ⟨L, 0, castle, ep, half, full⟩, .int .i64 0] w (RetB (.int .i64 (castleToI ⟨L, 0, castle, ep, half, full⟩ 0)) w) := by
  have hlt := hbr.lt
  simp only [chessV]
  have hbit := bits_one (castle) (by omega) (by omega)
  cases qb : (bits BinOp.and IntKind.i64 (castle) 1 == 0)
  case true =>
    go_enter Tryz.func31, Tryz.ntmps31
    go_wp2
    go_ret
    exact ⟨by rw [hbit] at qb; simp at qb; simp [castleToI, qb], (Below.refl _ _).alloc (Nat.le_refl _) _⟩
  have hE : ¬ (castle / 2 ^ 0 % 2 = 0 ∨ ((0 / 2 : Nat) : Int) ≠ 0) := by
    rw [hbit] at qb; simp at qb; simpa using qb
  have HE := Lib.hid hE
  clear hE hbit
  go_enter Tryz.func31, Tryz.ntmps31
  go_wp2_with fail
  generalize hW0 : World.alloc _ _ = W0
  have HW := Lib.hid hW0
  clear hW0
  have hb0 : Below w.heap.size w W0 := by
    rw [← HW.out]
    repeat' (first | exact Below.refl _ _ | refine Below.alloc ?_ ?_ _)
    all_goals (simp; try omega)
  have hsz : w.heap.size + 7 ≤ W0.heap.size := by rw [← HW.out]; simp
  have hbw0 := hbr.below hb0 hlt
  have p0 : W0.cell? ⟨w.heap.size, 0, none⟩ = some (.slice (some ⟨b, off, none⟩) 64 cap) := by rw [← HW.out]; go_simp
  have p1 : W0.cell? ⟨w.heap.size, 1, none⟩ = some (.int .i64 0) := by rw [← HW.out]; go_simp
  have cb0 : W0.cell? ⟨w.heap.size + 1 + 1, 0, none⟩ = some (.int .i64 5) := by rw [← HW.out]; go_simp
  have cb1 : W0.cell? ⟨w.heap.size + 1 + 1, 1, none⟩ = some (.int .i64 6) := by rw [← HW.out]; go_simp
  go_loopg [7] 2 (fun g s7 wr => ∃ i : Nat, i ≤ 2 ∧ g = 2 - i ∧ s7 = .int .i64 i ∧ Below (w.heap.size + 7) W0 wr ∧ ∀ x, x ∈ (betweenN 0).take i → L x = 0)
  case atStart => exact ⟨0, by omega, rfl, rfl, Below.refl _ _, by simp⟩
  case round =>
    obtain ⟨i, hi, hg, rfl, hbel, hz⟩ := hrel
    have Hg := Lib.hid hg
    have Hz := Lib.hid hz
    clear hg hz
    have hwsz := hbel.size
    have hbw := hbw0.below hbel (by omega)
    have k0 := (hbel.cell (p := ⟨w.heap.size, 0, none⟩) (by simp)).trans p0
    have k1 := (hbel.cell (p := ⟨w.heap.size, 1, none⟩) (by simp)).trans p1
    have kb0 := (hbel.cell (p := ⟨w.heap.size + 1 + 1, 0, none⟩) (by simp)).trans cb0
    have kb1 := (hbel.cell (p := ⟨w.heap.size + 1 + 1, 1, none⟩) (by simp)).trans cb1
    have hcs : i = 0 ∨ i = 1 ∨ i = 2 := by omega
    rcases hcs with rfl | rfl | rfl
    · have ce := hbw.cell 5 (by omega)
      cases q : (L 5 == 0)
      case false =>
        go_wp2_with fail
        go_quiet (fail)
        go_wp2
        go_ret
        refine ⟨congrArg (fun x => Ending.returned (.int .i64 x)) (castle_full HE.out 5 (by decide) (by simpa using q)).symm, below_drewN (hb0.trans (hbel.mono (by omega))) _⟩
      case true =>
        go_wp2_with fail
        go_quiet (fail)
        go_wp2
        go_roundg (2 - 1)
        case measure => have := Hg.out; omega
        case rel =>
          refine ⟨1, by omega, rfl, rfl, below_drewN hbel _, fun x hx => ?_⟩
          have hz := Hz.out
          simp [betweenN] at hx hz
          simp at q
          subst hx; exact q
    · have ce := hbw.cell 6 (by omega)
      cases q : (L 6 == 0)
      case false =>
        go_wp2_with fail
        go_quiet (fail)
        go_wp2
        go_ret
        refine ⟨congrArg (fun x => Ending.returned (.int .i64 x)) (castle_full HE.out 6 (by decide) (by simpa using q)).symm, below_drewN (hb0.trans (hbel.mono (by omega))) _⟩
      case true =>
        go_wp2_with fail
        go_quiet (fail)
        go_wp2
        go_roundg (2 - 2)
        case measure => have := Hg.out; omega
        case rel =>
          refine ⟨2, by omega, rfl, rfl, below_drewN hbel _, fun x hx => ?_⟩
          have hz := Hz.out
          simp [betweenN] at hx hz
          simp at q
          rcases hx with rfl | rfl <;> simp_all
    · have HF := Lib.hid (castle_free (L := L) (n := 0) (fun x hx => Hz.out x (by simpa [betweenN] using hx)))
      clear Hz
      go_wp2_with fail
      generalize hW1 : World.alloc _ _ = W1
      have HW1 := Lib.hid hW1
      clear hW1
      have hb1 : Below (w.heap.size + 7) W0 W1 := by rw [← HW1.out]; exact hbel.alloc (by omega) _
      clear hbel hbw k0 k1 hwsz
      go_loopg [9] 3 (fun g s9 wr => ∃ k : Nat, k ≤ 3 ∧ g = 3 - k ∧ s9 = .int .i64 k ∧ Below (w.heap.size + 7) W0 wr ∧ ∀ j, j < k → safeN ⟨L, 0, castle, ep, half, full⟩ 0 j = true)
      case atStart => exact ⟨0, by omega, rfl, rfl, hb1, fun j hj => absurd hj (by omega)⟩
      case round =>
      obtain ⟨k, hk, hg, rfl, hbel, hs⟩ := hrel
      have Hg := Lib.hid hg
      have Hs := Lib.hid hs
      clear hg hs hb1
      have hwsz := hbel.size
      have hbw := hbw0.below hbel (by omega)
      have k0 := (hbel.cell (p := ⟨w.heap.size, 0, none⟩) (by simp)).trans p0
      have k1 := (hbel.cell (p := ⟨w.heap.size, 1, none⟩) (by simp)).trans p1
      have hcs : k = 0 ∨ k = 1 ∨ k = 2 ∨ k = 3 := by omega
      rcases hcs with rfl | rfl | rfl | rfl
      · cases qs : safeN ⟨L, 0, castle, ep, half, full⟩ 0 0
        case false =>
          have hpos : 0 < (attackersL L 4 (1 - 0) 64).length := by simpa [safeN, kingN, wayN] using qs
          go_wp2_with (go_at_call 55; refine (attackersOf_any b off cap L 4 _ _ (by omega) hbw).mono ?_; rintro e w1 ⟨a, cp, rfl, hb1⟩)
          go_ret
          exact ⟨congrArg (fun x => Ending.returned (.int .i64 x)) (castle_hit HE.out HF.out 0 (by omega) qs).symm, hb0.trans ((hbel.trans (hb1.mono (by omega))).mono (by omega))⟩
        case true =>
          have hpos : ¬ 0 < (attackersL L 4 (1 - 0) 64).length := by simpa [safeN, kingN, wayN] using qs
          go_wp2_with (go_at_call 55; refine (attackersOf_any b off cap L 4 _ _ (by omega) hbw).mono ?_; rintro e w1 ⟨a, cp, rfl, hb1⟩)
          go_roundg (3 - 1)
          case measure => have := Hg.out; omega
          case rel =>
            refine ⟨1, by omega, rfl, rfl, hbel.trans (hb1.mono (by omega)), fun j hj => ?_⟩
            by_cases hj' : j = 0
            · rw [hj']; exact qs
            · exact Hs.out j (by omega)
      · cases qs : safeN ⟨L, 0, castle, ep, half, full⟩ 0 1
        case false =>
          have hpos : 0 < (attackersL L 5 (1 - 0) 64).length := by simpa [safeN, kingN, wayN] using qs
          go_wp2_with (go_at_call 55; refine (attackersOf_any b off cap L 5 _ _ (by omega) hbw).mono ?_; rintro e w1 ⟨a, cp, rfl, hb1⟩)
          go_ret
          exact ⟨congrArg (fun x => Ending.returned (.int .i64 x)) (castle_hit HE.out HF.out 1 (by omega) qs).symm, hb0.trans ((hbel.trans (hb1.mono (by omega))).mono (by omega))⟩
        case true =>
          have hpos : ¬ 0 < (attackersL L 5 (1 - 0) 64).length := by simpa [safeN, kingN, wayN] using qs
          go_wp2_with (go_at_call 55; refine (attackersOf_any b off cap L 5 _ _ (by omega) hbw).mono ?_; rintro e w1 ⟨a, cp, rfl, hb1⟩)
          go_roundg (3 - 2)
          case measure => have := Hg.out; omega
          case rel =>
            refine ⟨2, by omega, rfl, rfl, hbel.trans (hb1.mono (by omega)), fun j hj => ?_⟩
            by_cases hj' : j = 1
            · rw [hj']; exact qs
            · exact Hs.out j (by omega)
      · cases qs : safeN ⟨L, 0, castle, ep, half, full⟩ 0 2
        case false =>
          have hpos : 0 < (attackersL L 6 (1 - 0) 64).length := by simpa [safeN, kingN, wayN] using qs
          go_wp2_with (go_at_call 55; refine (attackersOf_any b off cap L 6 _ _ (by omega) hbw).mono ?_; rintro e w1 ⟨a, cp, rfl, hb1⟩)
          go_ret
          exact ⟨congrArg (fun x => Ending.returned (.int .i64 x)) (castle_hit HE.out HF.out 2 (by omega) qs).symm, hb0.trans ((hbel.trans (hb1.mono (by omega))).mono (by omega))⟩
        case true =>
          have hpos : ¬ 0 < (attackersL L 6 (1 - 0) 64).length := by simpa [safeN, kingN, wayN] using qs
          go_wp2_with (go_at_call 55; refine (attackersOf_any b off cap L 6 _ _ (by omega) hbw).mono ?_; rintro e w1 ⟨a, cp, rfl, hb1⟩)
          go_roundg (3 - 3)
          case measure => have := Hg.out; omega
          case rel =>
            refine ⟨3, by omega, rfl, rfl, hbel.trans (hb1.mono (by omega)), fun j hj => ?_⟩
            by_cases hj' : j = 2
            · rw [hj']; exact qs
            · exact Hs.out j (by omega)
      · go_wp2
        go_ret
        exact ⟨congrArg (fun x => Ending.returned (.int .i64 x)) (castle_yes HE.out HF.out Hs.out).symm, hb0.trans (hbel.mono (by omega))⟩

set_option maxHeartbeats 4000000 in
theorem castleTo_1 (b off cap : Nat) (L : Nat → Int) (castle ep half full : Int) (w : World) (hbr : Brd w b off L) (hc0 : 0 ≤ castle) (hc1 : castle < 16) :
    Calls Tryz.prog 31 #[chessV b off cap ⟨L, 0, castle, ep, half, full⟩, .int .i64 1] w (RetB (.int .i64 (castleToI ⟨L, 0, castle, ep, half, full⟩ 1)) w) := by
  have hlt := hbr.lt
  simp only [chessV]
  have hbit := bits_one (castle / 2) (by omega) (by omega)
  cases qb : (bits BinOp.and IntKind.i64 (castle / 2) 1 == 0)
  case true =>
    go_enter Tryz.func31, Tryz.ntmps31
    go_wp2
    go_ret
    exact ⟨by rw [hbit] at qb; simp at qb; simp [castleToI, qb], (Below.refl _ _).alloc (Nat.le_refl _) _⟩
  have hE : ¬ (castle / 2 ^ 1 % 2 = 0 ∨ ((1 / 2 : Nat) : Int) ≠ 0) := by
    rw [hbit] at qb; simp at qb; simpa using qb
  have HE := Lib.hid hE
  clear hE hbit
  go_enter Tryz.func31, Tryz.ntmps31
  go_wp2_with fail
  generalize hW0 : World.alloc _ _ = W0
  have HW := Lib.hid hW0
  clear hW0
  have hb0 : Below w.heap.size w W0 := by
    rw [← HW.out]
    repeat' (first | exact Below.refl _ _ | refine Below.alloc ?_ ?_ _)
    all_goals (simp; try omega)
  have hsz : w.heap.size + 7 ≤ W0.heap.size := by rw [← HW.out]; simp
  have hbw0 := hbr.below hb0 hlt
  have p0 : W0.cell? ⟨w.heap.size, 0, none⟩ = some (.slice (some ⟨b, off, none⟩) 64 cap) := by rw [← HW.out]; go_simp
  have p1 : W0.cell? ⟨w.heap.size, 1, none⟩ = some (.int .i64 0) := by rw [← HW.out]; go_simp
  have cb0 : W0.cell? ⟨w.heap.size + 1 + 2, 0, none⟩ = some (.int .i64 1) := by rw [← HW.out]; go_simp
  have cb1 : W0.cell? ⟨w.heap.size + 1 + 2, 1, none⟩ = some (.int .i64 2) := by rw [← HW.out]; go_simp
  have cb2 : W0.cell? ⟨w.heap.size + 1 + 2, 2, none⟩ = some (.int .i64 3) := by rw [← HW.out]; go_simp
  go_loopg [7] 3 (fun g s7 wr => ∃ i : Nat, i ≤ 3 ∧ g = 3 - i ∧ s7 = .int .i64 i ∧ Below (w.heap.size + 7) W0 wr ∧ ∀ x, x ∈ (betweenN 1).take i → L x = 0)
  case atStart => exact ⟨0, by omega, rfl, rfl, Below.refl _ _, by simp⟩
  case round =>
    obtain ⟨i, hi, hg, rfl, hbel, hz⟩ := hrel
    have Hg := Lib.hid hg
    have Hz := Lib.hid hz
    clear hg hz
    have hwsz := hbel.size
    have hbw := hbw0.below hbel (by omega)
    have k0 := (hbel.cell (p := ⟨w.heap.size, 0, none⟩) (by simp)).trans p0
    have k1 := (hbel.cell (p := ⟨w.heap.size, 1, none⟩) (by simp)).trans p1
    have kb0 := (hbel.cell (p := ⟨w.heap.size + 1 + 2, 0, none⟩) (by simp)).trans cb0
    have kb1 := (hbel.cell (p := ⟨w.heap.size + 1 + 2, 1, none⟩) (by simp)).trans cb1
    have kb2 := (hbel.cell (p := ⟨w.heap.size + 1 + 2, 2, none⟩) (by simp)).trans cb2
    have hcs : i = 0 ∨ i = 1 ∨ i = 2 ∨ i = 3 := by omega
    rcases hcs with rfl | rfl | rfl | rfl
    · have ce := hbw.cell 1 (by omega)
      cases q : (L 1 == 0)
      case false =>
        go_wp2_with fail
        go_quiet (fail)
        go_wp2
        go_ret
        refine ⟨congrArg (fun x => Ending.returned (.int .i64 x)) (castle_full HE.out 1 (by decide) (by simpa using q)).symm, below_drewN (hb0.trans (hbel.mono (by omega))) _⟩
      case true =>
        go_wp2_with fail
        go_quiet (fail)
        go_wp2
        go_roundg (3 - 1)
        case measure => have := Hg.out; omega
        case rel =>
          refine ⟨1, by omega, rfl, rfl, below_drewN hbel _, fun x hx => ?_⟩
          have hz := Hz.out
          simp [betweenN] at hx hz
          simp at q
          subst hx; exact q
    · have ce := hbw.cell 2 (by omega)
      cases q : (L 2 == 0)
      case false =>
        go_wp2_with fail
        go_quiet (fail)
        go_wp2
        go_ret
        refine ⟨congrArg (fun x => Ending.returned (.int .i64 x)) (castle_full HE.out 2 (by decide) (by simpa using q)).symm, below_drewN (hb0.trans (hbel.mono (by omega))) _⟩
      case true =>
        go_wp2_with fail
        go_quiet (fail)
        go_wp2
        go_roundg (3 - 2)
        case measure => have := Hg.out; omega
        case rel =>
          refine ⟨2, by omega, rfl, rfl, below_drewN hbel _, fun x hx => ?_⟩
          have hz := Hz.out
          simp [betweenN] at hx hz
          simp at q
          rcases hx with rfl | rfl <;> simp_all
    · have ce := hbw.cell 3 (by omega)
      cases q : (L 3 == 0)
      case false =>
        go_wp2_with fail
        go_quiet (fail)
        go_wp2
        go_ret
        refine ⟨congrArg (fun x => Ending.returned (.int .i64 x)) (castle_full HE.out 3 (by decide) (by simpa using q)).symm, below_drewN (hb0.trans (hbel.mono (by omega))) _⟩
      case true =>
        go_wp2_with fail
        go_quiet (fail)
        go_wp2
        go_roundg (3 - 3)
        case measure => have := Hg.out; omega
        case rel =>
          refine ⟨3, by omega, rfl, rfl, below_drewN hbel _, fun x hx => ?_⟩
          have hz := Hz.out
          simp [betweenN] at hx hz
          simp at q
          rcases hx with rfl | rfl | rfl <;> simp_all
    · have HF := Lib.hid (castle_free (L := L) (n := 1) (fun x hx => Hz.out x (by simpa [betweenN] using hx)))
      clear Hz
      go_wp2_with fail
      generalize hW1 : World.alloc _ _ = W1
      have HW1 := Lib.hid hW1
      clear hW1
      have hb1 : Below (w.heap.size + 7) W0 W1 := by rw [← HW1.out]; exact hbel.alloc (by omega) _
      clear hbel hbw k0 k1 hwsz
      go_loopg [9] 3 (fun g s9 wr => ∃ k : Nat, k ≤ 3 ∧ g = 3 - k ∧ s9 = .int .i64 k ∧ Below (w.heap.size + 7) W0 wr ∧ ∀ j, j < k → safeN ⟨L, 0, castle, ep, half, full⟩ 1 j = true)
      case atStart => exact ⟨0, by omega, rfl, rfl, hb1, fun j hj => absurd hj (by omega)⟩
      case round =>
      obtain ⟨k, hk, hg, rfl, hbel, hs⟩ := hrel
      have Hg := Lib.hid hg
      have Hs := Lib.hid hs
      clear hg hs hb1
      have hwsz := hbel.size
      have hbw := hbw0.below hbel (by omega)
      have k0 := (hbel.cell (p := ⟨w.heap.size, 0, none⟩) (by simp)).trans p0
      have k1 := (hbel.cell (p := ⟨w.heap.size, 1, none⟩) (by simp)).trans p1
      have hcs : k = 0 ∨ k = 1 ∨ k = 2 ∨ k = 3 := by omega
      rcases hcs with rfl | rfl | rfl | rfl
      · cases qs : safeN ⟨L, 0, castle, ep, half, full⟩ 1 0
        case false =>
          have hpos : 0 < (attackersL L 4 (1 - 0) 64).length := by simpa [safeN, kingN, wayN] using qs
          go_wp2_with (go_at_call 55; refine (attackersOf_any b off cap L 4 _ _ (by omega) hbw).mono ?_; rintro e w1 ⟨a, cp, rfl, hb1⟩)
          go_ret
          exact ⟨congrArg (fun x => Ending.returned (.int .i64 x)) (castle_hit HE.out HF.out 0 (by omega) qs).symm, hb0.trans ((hbel.trans (hb1.mono (by omega))).mono (by omega))⟩
        case true =>
          have hpos : ¬ 0 < (attackersL L 4 (1 - 0) 64).length := by simpa [safeN, kingN, wayN] using qs
          go_wp2_with (go_at_call 55; refine (attackersOf_any b off cap L 4 _ _ (by omega) hbw).mono ?_; rintro e w1 ⟨a, cp, rfl, hb1⟩)
          go_roundg (3 - 1)
          case measure => have := Hg.out; omega
          case rel =>
            refine ⟨1, by omega, rfl, rfl, hbel.trans (hb1.mono (by omega)), fun j hj => ?_⟩
            by_cases hj' : j = 0
            · rw [hj']; exact qs
            · exact Hs.out j (by omega)
      · cases qs : safeN ⟨L, 0, castle, ep, half, full⟩ 1 1
        case false =>
          have hpos : 0 < (attackersL L 3 (1 - 0) 64).length := by simpa [safeN, kingN, wayN] using qs
          go_wp2_with (go_at_call 55; refine (attackersOf_any b off cap L 3 _ _ (by omega) hbw).mono ?_; rintro e w1 ⟨a, cp, rfl, hb1⟩)
          go_ret
          exact ⟨congrArg (fun x => Ending.returned (.int .i64 x)) (castle_hit HE.out HF.out 1 (by omega) qs).symm, hb0.trans ((hbel.trans (hb1.mono (by omega))).mono (by omega))⟩
        case true =>
          have hpos : ¬ 0 < (attackersL L 3 (1 - 0) 64).length := by simpa [safeN, kingN, wayN] using qs
          go_wp2_with (go_at_call 55; refine (attackersOf_any b off cap L 3 _ _ (by omega) hbw).mono ?_; rintro e w1 ⟨a, cp, rfl, hb1⟩)
          go_roundg (3 - 2)
          case measure => have := Hg.out; omega
          case rel =>
            refine ⟨2, by omega, rfl, rfl, hbel.trans (hb1.mono (by omega)), fun j hj => ?_⟩
            by_cases hj' : j = 1
            · rw [hj']; exact qs
            · exact Hs.out j (by omega)
      · cases qs : safeN ⟨L, 0, castle, ep, half, full⟩ 1 2
        case false =>
          have hpos : 0 < (attackersL L 2 (1 - 0) 64).length := by simpa [safeN, kingN, wayN] using qs
          go_wp2_with (go_at_call 55; refine (attackersOf_any b off cap L 2 _ _ (by omega) hbw).mono ?_; rintro e w1 ⟨a, cp, rfl, hb1⟩)
          go_ret
          exact ⟨congrArg (fun x => Ending.returned (.int .i64 x)) (castle_hit HE.out HF.out 2 (by omega) qs).symm, hb0.trans ((hbel.trans (hb1.mono (by omega))).mono (by omega))⟩
        case true =>
          have hpos : ¬ 0 < (attackersL L 2 (1 - 0) 64).length := by simpa [safeN, kingN, wayN] using qs
          go_wp2_with (go_at_call 55; refine (attackersOf_any b off cap L 2 _ _ (by omega) hbw).mono ?_; rintro e w1 ⟨a, cp, rfl, hb1⟩)
          go_roundg (3 - 3)
          case measure => have := Hg.out; omega
          case rel =>
            refine ⟨3, by omega, rfl, rfl, hbel.trans (hb1.mono (by omega)), fun j hj => ?_⟩
            by_cases hj' : j = 2
            · rw [hj']; exact qs
            · exact Hs.out j (by omega)
      · go_wp2
        go_ret
        exact ⟨congrArg (fun x => Ending.returned (.int .i64 x)) (castle_yes HE.out HF.out Hs.out).symm, hb0.trans (hbel.mono (by omega))⟩

set_option maxHeartbeats 4000000 in
theorem castleTo_2 (b off cap : Nat) (L : Nat → Int) (castle ep half full : Int) (w : World) (hbr : Brd w b off L) (hc0 : 0 ≤ castle) (hc1 : castle < 16) :
    Calls Tryz.prog 31 #[chessV b off cap ⟨L, 1, castle, ep, half, full⟩, .int .i64 2] w (RetB (.int .i64 (castleToI ⟨L, 1, castle, ep, half, full⟩ 2)) w) := by
  have hlt := hbr.lt
  simp only [chessV]
  have hbit := bits_one (castle / 4) (by omega) (by omega)
  cases qb : (bits BinOp.and IntKind.i64 (castle / 4) 1 == 0)
  case true =>
    go_enter Tryz.func31, Tryz.ntmps31
    go_wp2
    go_ret
    exact ⟨by rw [hbit] at qb; simp at qb; simp [castleToI, qb], (Below.refl _ _).alloc (Nat.le_refl _) _⟩
  have hE : ¬ (castle / 2 ^ 2 % 2 = 0 ∨ ((2 / 2 : Nat) : Int) ≠ 1) := by
    rw [hbit] at qb; simp at qb; simpa using qb
  have HE := Lib.hid hE
  clear hE hbit
  go_enter Tryz.func31, Tryz.ntmps31
  go_wp2_with fail
  generalize hW0 : World.alloc _ _ = W0
  have HW := Lib.hid hW0
  clear hW0
  have hb0 : Below w.heap.size w W0 := by
    rw [← HW.out]
    repeat' (first | exact Below.refl _ _ | refine Below.alloc ?_ ?_ _)
    all_goals (simp; try omega)
  have hsz : w.heap.size + 7 ≤ W0.heap.size := by rw [← HW.out]; simp
  have hbw0 := hbr.below hb0 hlt
  have p0 : W0.cell? ⟨w.heap.size, 0, none⟩ = some (.slice (some ⟨b, off, none⟩) 64 cap) := by rw [← HW.out]; go_simp
  have p1 : W0.cell? ⟨w.heap.size, 1, none⟩ = some (.int .i64 1) := by rw [← HW.out]; go_simp
  have cb0 : W0.cell? ⟨w.heap.size + 1 + 3, 0, none⟩ = some (.int .i64 61) := by rw [← HW.out]; go_simp
  have cb1 : W0.cell? ⟨w.heap.size + 1 + 3, 1, none⟩ = some (.int .i64 62) := by rw [← HW.out]; go_simp
  go_loopg [7] 2 (fun g s7 wr => ∃ i : Nat, i ≤ 2 ∧ g = 2 - i ∧ s7 = .int .i64 i ∧ Below (w.heap.size + 7) W0 wr ∧ ∀ x, x ∈ (betweenN 2).take i → L x = 0)
  case atStart => exact ⟨0, by omega, rfl, rfl, Below.refl _ _, by simp⟩
  case round =>
    obtain ⟨i, hi, hg, rfl, hbel, hz⟩ := hrel
    have Hg := Lib.hid hg
    have Hz := Lib.hid hz
    clear hg hz
    have hwsz := hbel.size
    have hbw := hbw0.below hbel (by omega)
    have k0 := (hbel.cell (p := ⟨w.heap.size, 0, none⟩) (by simp)).trans p0
    have k1 := (hbel.cell (p := ⟨w.heap.size, 1, none⟩) (by simp)).trans p1
    have kb0 := (hbel.cell (p := ⟨w.heap.size + 1 + 3, 0, none⟩) (by simp)).trans cb0
    have kb1 := (hbel.cell (p := ⟨w.heap.size + 1 + 3, 1, none⟩) (by simp)).trans cb1
    have hcs : i = 0 ∨ i = 1 ∨ i = 2 := by omega
    rcases hcs with rfl | rfl | rfl
    · have ce := hbw.cell 61 (by omega)
      cases q : (L 61 == 0)
      case false =>
        go_wp2_with fail
        go_quiet (fail)
        go_wp2
        go_ret
        refine ⟨congrArg (fun x => Ending.returned (.int .i64 x)) (castle_full HE.out 61 (by decide) (by simpa using q)).symm, below_drewN (hb0.trans (hbel.mono (by omega))) _⟩
      case true =>
        go_wp2_with fail
        go_quiet (fail)
        go_wp2
        go_roundg (2 - 1)
        case measure => have := Hg.out; omega
        case rel =>
          refine ⟨1, by omega, rfl, rfl, below_drewN hbel _, fun x hx => ?_⟩
          have hz := Hz.out
          simp [betweenN] at hx hz
          simp at q
          subst hx; exact q
    · have ce := hbw.cell 62 (by omega)
      cases q : (L 62 == 0)
      case false =>
        go_wp2_with fail
        go_quiet (fail)
        go_wp2
        go_ret
        refine ⟨congrArg (fun x => Ending.returned (.int .i64 x)) (castle_full HE.out 62 (by decide) (by simpa using q)).symm, below_drewN (hb0.trans (hbel.mono (by omega))) _⟩
      case true =>
        go_wp2_with fail
        go_quiet (fail)
        go_wp2
        go_roundg (2 - 2)
        case measure => have := Hg.out; omega
        case rel =>
          refine ⟨2, by omega, rfl, rfl, below_drewN hbel _, fun x hx => ?_⟩
          have hz := Hz.out
          simp [betweenN] at hx hz
          simp at q
          rcases hx with rfl | rfl <;> simp_all
    · have HF := Lib.hid (castle_free (L := L) (n := 2) (fun x hx => Hz.out x (by simpa [betweenN] using hx)))
      clear Hz
      go_wp2_with fail
      generalize hW1 : World.alloc _ _ = W1
      have HW1 := Lib.hid hW1
      clear hW1
      have hb1 : Below (w.heap.size + 7) W0 W1 := by rw [← HW1.out]; exact hbel.alloc (by omega) _
      clear hbel hbw k0 k1 hwsz
      go_loopg [9] 3 (fun g s9 wr => ∃ k : Nat, k ≤ 3 ∧ g = 3 - k ∧ s9 = .int .i64 k ∧ Below (w.heap.size + 7) W0 wr ∧ ∀ j, j < k → safeN ⟨L, 1, castle, ep, half, full⟩ 2 j = true)
      case atStart => exact ⟨0, by omega, rfl, rfl, hb1, fun j hj => absurd hj (by omega)⟩
      case round =>
      obtain ⟨k, hk, hg, rfl, hbel, hs⟩ := hrel
      have Hg := Lib.hid hg
      have Hs := Lib.hid hs
      clear hg hs hb1
      have hwsz := hbel.size
      have hbw := hbw0.below hbel (by omega)
      have k0 := (hbel.cell (p := ⟨w.heap.size, 0, none⟩) (by simp)).trans p0
      have k1 := (hbel.cell (p := ⟨w.heap.size, 1, none⟩) (by simp)).trans p1
      have hcs : k = 0 ∨ k = 1 ∨ k = 2 ∨ k = 3 := by omega
      rcases hcs with rfl | rfl | rfl | rfl
      · cases qs : safeN ⟨L, 1, castle, ep, half, full⟩ 2 0
        case false =>
          have hpos : 0 < (attackersL L 60 (1 - 1) 64).length := by simpa [safeN, kingN, wayN] using qs
          go_wp2_with (go_at_call 55; refine (attackersOf_any b off cap L 60 _ _ (by omega) hbw).mono ?_; rintro e w1 ⟨a, cp, rfl, hb1⟩)
          go_ret
          exact ⟨congrArg (fun x => Ending.returned (.int .i64 x)) (castle_hit HE.out HF.out 0 (by omega) qs).symm, hb0.trans ((hbel.trans (hb1.mono (by omega))).mono (by omega))⟩
        case true =>
          have hpos : ¬ 0 < (attackersL L 60 (1 - 1) 64).length := by simpa [safeN, kingN, wayN] using qs
          go_wp2_with (go_at_call 55; refine (attackersOf_any b off cap L 60 _ _ (by omega) hbw).mono ?_; rintro e w1 ⟨a, cp, rfl, hb1⟩)
          go_roundg (3 - 1)
          case measure => have := Hg.out; omega
          case rel =>
            refine ⟨1, by omega, rfl, rfl, hbel.trans (hb1.mono (by omega)), fun j hj => ?_⟩
            by_cases hj' : j = 0
            · rw [hj']; exact qs
            · exact Hs.out j (by omega)
      · cases qs : safeN ⟨L, 1, castle, ep, half, full⟩ 2 1
        case false =>
          have hpos : 0 < (attackersL L 61 (1 - 1) 64).length := by simpa [safeN, kingN, wayN] using qs
          go_wp2_with (go_at_call 55; refine (attackersOf_any b off cap L 61 _ _ (by omega) hbw).mono ?_; rintro e w1 ⟨a, cp, rfl, hb1⟩)
          go_ret
          exact ⟨congrArg (fun x => Ending.returned (.int .i64 x)) (castle_hit HE.out HF.out 1 (by omega) qs).symm, hb0.trans ((hbel.trans (hb1.mono (by omega))).mono (by omega))⟩
        case true =>
          have hpos : ¬ 0 < (attackersL L 61 (1 - 1) 64).length := by simpa [safeN, kingN, wayN] using qs
          go_wp2_with (go_at_call 55; refine (attackersOf_any b off cap L 61 _ _ (by omega) hbw).mono ?_; rintro e w1 ⟨a, cp, rfl, hb1⟩)
          go_roundg (3 - 2)
          case measure => have := Hg.out; omega
          case rel =>
            refine ⟨2, by omega, rfl, rfl, hbel.trans (hb1.mono (by omega)), fun j hj => ?_⟩
            by_cases hj' : j = 1
            · rw [hj']; exact qs
            · exact Hs.out j (by omega)
      · cases qs : safeN ⟨L, 1, castle, ep, half, full⟩ 2 2
        case false =>
          have hpos : 0 < (attackersL L 62 (1 - 1) 64).length := by simpa [safeN, kingN, wayN] using qs
          go_wp2_with (go_at_call 55; refine (attackersOf_any b off cap L 62 _ _ (by omega) hbw).mono ?_; rintro e w1 ⟨a, cp, rfl, hb1⟩)
          go_ret
          exact ⟨congrArg (fun x => Ending.returned (.int .i64 x)) (castle_hit HE.out HF.out 2 (by omega) qs).symm, hb0.trans ((hbel.trans (hb1.mono (by omega))).mono (by omega))⟩
        case true =>
          have hpos : ¬ 0 < (attackersL L 62 (1 - 1) 64).length := by simpa [safeN, kingN, wayN] using qs
          go_wp2_with (go_at_call 55; refine (attackersOf_any b off cap L 62 _ _ (by omega) hbw).mono ?_; rintro e w1 ⟨a, cp, rfl, hb1⟩)
          go_roundg (3 - 3)
          case measure => have := Hg.out; omega
          case rel =>
            refine ⟨3, by omega, rfl, rfl, hbel.trans (hb1.mono (by omega)), fun j hj => ?_⟩
            by_cases hj' : j = 2
            · rw [hj']; exact qs
            · exact Hs.out j (by omega)
      · go_wp2
        go_ret
        exact ⟨congrArg (fun x => Ending.returned (.int .i64 x)) (castle_yes HE.out HF.out Hs.out).symm, hb0.trans (hbel.mono (by omega))⟩

set_option maxHeartbeats 4000000 in
theorem castleTo_3 (b off cap : Nat) (L : Nat → Int) (castle ep half full : Int) (w : World) (hbr : Brd w b off L) (hc0 : 0 ≤ castle) (hc1 : castle < 16) :
    Calls Tryz.prog 31 #[chessV b off cap ⟨L, 1, castle, ep, half, full⟩, .int .i64 3] w (RetB (.int .i64 (castleToI ⟨L, 1, castle, ep, half, full⟩ 3)) w) := by
  have hlt := hbr.lt
  simp only [chessV]
  have hbit := bits_one (castle / 8) (by omega) (by omega)
  cases qb : (bits BinOp.and IntKind.i64 (castle / 8) 1 == 0)
  case true =>
    go_enter Tryz.func31, Tryz.ntmps31
    go_wp2
    go_ret
    exact ⟨by rw [hbit] at qb; simp at qb; simp [castleToI, qb], (Below.refl _ _).alloc (Nat.le_refl _) _⟩
  have hE : ¬ (castle / 2 ^ 3 % 2 = 0 ∨ ((3 / 2 : Nat) : Int) ≠ 1) := by
    rw [hbit] at qb; simp at qb; simpa using qb
  have HE := Lib.hid hE
  clear hE hbit
  go_enter Tryz.func31, Tryz.ntmps31
  go_wp2_with fail
  generalize hW0 : World.alloc _ _ = W0
  have HW := Lib.hid hW0
  clear hW0
  have hb0 : Below w.heap.size w W0 := by
    rw [← HW.out]
    repeat' (first | exact Below.refl _ _ | refine Below.alloc ?_ ?_ _)
    all_goals (simp; try omega)
  have hsz : w.heap.size + 7 ≤ W0.heap.size := by rw [← HW.out]; simp
  have hbw0 := hbr.below hb0 hlt
  have p0 : W0.cell? ⟨w.heap.size, 0, none⟩ = some (.slice (some ⟨b, off, none⟩) 64 cap) := by rw [← HW.out]; go_simp
  have p1 : W0.cell? ⟨w.heap.size, 1, none⟩ = some (.int .i64 1) := by rw [← HW.out]; go_simp
  have cb0 : W0.cell? ⟨w.heap.size + 1 + 4, 0, none⟩ = some (.int .i64 57) := by rw [← HW.out]; go_simp
  have cb1 : W0.cell? ⟨w.heap.size + 1 + 4, 1, none⟩ = some (.int .i64 58) := by rw [← HW.out]; go_simp
  have cb2 : W0.cell? ⟨w.heap.size + 1 + 4, 2, none⟩ = some (.int .i64 59) := by rw [← HW.out]; go_simp
  go_loopg [7] 3 (fun g s7 wr => ∃ i : Nat, i ≤ 3 ∧ g = 3 - i ∧ s7 = .int .i64 i ∧ Below (w.heap.size + 7) W0 wr ∧ ∀ x, x ∈ (betweenN 3).take i → L x = 0)
  case atStart => exact ⟨0, by omega, rfl, rfl, Below.refl _ _, by simp⟩
  case round =>
    obtain ⟨i, hi, hg, rfl, hbel, hz⟩ := hrel
    have Hg := Lib.hid hg
    have Hz := Lib.hid hz
    clear hg hz
    have hwsz := hbel.size
    have hbw := hbw0.below hbel (by omega)
    have k0 := (hbel.cell (p := ⟨w.heap.size, 0, none⟩) (by simp)).trans p0
    have k1 := (hbel.cell (p := ⟨w.heap.size, 1, none⟩) (by simp)).trans p1
    have kb0 := (hbel.cell (p := ⟨w.heap.size + 1 + 4, 0, none⟩) (by simp)).trans cb0
    have kb1 := (hbel.cell (p := ⟨w.heap.size + 1 + 4, 1, none⟩) (by simp)).trans cb1
    have kb2 := (hbel.cell (p := ⟨w.heap.size + 1 + 4, 2, none⟩) (by simp)).trans cb2
    have hcs : i = 0 ∨ i = 1 ∨ i = 2 ∨ i = 3 := by omega
    rcases hcs with rfl | rfl | rfl | rfl
    · have ce := hbw.cell 57 (by omega)
      cases q : (L 57 == 0)
      case false =>
        go_wp2_with fail
        go_quiet (fail)
        go_wp2
        go_ret
        refine ⟨congrArg (fun x => Ending.returned (.int .i64 x)) (castle_full HE.out 57 (by decide) (by simpa using q)).symm, below_drewN (hb0.trans (hbel.mono (by omega))) _⟩
      case true =>
        go_wp2_with fail
        go_quiet (fail)
        go_wp2
        go_roundg (3 - 1)
        case measure => have := Hg.out; omega
        case rel =>
          refine ⟨1, by omega, rfl, rfl, below_drewN hbel _, fun x hx => ?_⟩
          have hz := Hz.out
          simp [betweenN] at hx hz
          simp at q
          subst hx; exact q
    · have ce := hbw.cell 58 (by omega)
      cases q : (L 58 == 0)
      case false =>
        go_wp2_with fail
        go_quiet (fail)
        go_wp2
        go_ret
        refine ⟨congrArg (fun x => Ending.returned (.int .i64 x)) (castle_full HE.out 58 (by decide) (by simpa using q)).symm, below_drewN (hb0.trans (hbel.mono (by omega))) _⟩
      case true =>
        go_wp2_with fail
        go_quiet (fail)
        go_wp2
        go_roundg (3 - 2)
        case measure => have := Hg.out; omega
        case rel =>
          refine ⟨2, by omega, rfl, rfl, below_drewN hbel _, fun x hx => ?_⟩
          have hz := Hz.out
          simp [betweenN] at hx hz
          simp at q
          rcases hx with rfl | rfl <;> simp_all
    · have ce := hbw.cell 59 (by omega)
      cases q : (L 59 == 0)
      case false =>
        go_wp2_with fail
        go_quiet (fail)
        go_wp2
        go_ret
        refine ⟨congrArg (fun x => Ending.returned (.int .i64 x)) (castle_full HE.out 59 (by decide) (by simpa using q)).symm, below_drewN (hb0.trans (hbel.mono (by omega))) _⟩
      case true =>
        go_wp2_with fail
        go_quiet (fail)
        go_wp2
        go_roundg (3 - 3)
        case measure => have := Hg.out; omega
        case rel =>
          refine ⟨3, by omega, rfl, rfl, below_drewN hbel _, fun x hx => ?_⟩
          have hz := Hz.out
          simp [betweenN] at hx hz
          simp at q
          rcases hx with rfl | rfl | rfl <;> simp_all
    · have HF := Lib.hid (castle_free (L := L) (n := 3) (fun x hx => Hz.out x (by simpa [betweenN] using hx)))
      clear Hz
      go_wp2_with fail
      generalize hW1 : World.alloc _ _ = W1
      have HW1 := Lib.hid hW1
      clear hW1
      have hb1 : Below (w.heap.size + 7) W0 W1 := by rw [← HW1.out]; exact hbel.alloc (by omega) _
      clear hbel hbw k0 k1 hwsz
      go_loopg [9] 3 (fun g s9 wr => ∃ k : Nat, k ≤ 3 ∧ g = 3 - k ∧ s9 = .int .i64 k ∧ Below (w.heap.size + 7) W0 wr ∧ ∀ j, j < k → safeN ⟨L, 1, castle, ep, half, full⟩ 3 j = true)
      case atStart => exact ⟨0, by omega, rfl, rfl, hb1, fun j hj => absurd hj (by omega)⟩
      case round =>
      obtain ⟨k, hk, hg, rfl, hbel, hs⟩ := hrel
      have Hg := Lib.hid hg
      have Hs := Lib.hid hs
      clear hg hs hb1
      have hwsz := hbel.size
      have hbw := hbw0.below hbel (by omega)
      have k0 := (hbel.cell (p := ⟨w.heap.size, 0, none⟩) (by simp)).trans p0
      have k1 := (hbel.cell (p := ⟨w.heap.size, 1, none⟩) (by simp)).trans p1
      have hcs : k = 0 ∨ k = 1 ∨ k = 2 ∨ k = 3 := by omega
      rcases hcs with rfl | rfl | rfl | rfl
      · cases qs : safeN ⟨L, 1, castle, ep, half, full⟩ 3 0
        case false =>
          have hpos : 0 < (attackersL L 60 (1 - 1) 64).length := by simpa [safeN, kingN, wayN] using qs
          go_wp2_with (go_at_call 55; refine (attackersOf_any b off cap L 60 _ _ (by omega) hbw).mono ?_; rintro e w1 ⟨a, cp, rfl, hb1⟩)
          go_ret
          exact ⟨congrArg (fun x => Ending.returned (.int .i64 x)) (castle_hit HE.out HF.out 0 (by omega) qs).symm, hb0.trans ((hbel.trans (hb1.mono (by omega))).mono (by omega))⟩
        case true =>
          have hpos : ¬ 0 < (attackersL L 60 (1 - 1) 64).length := by simpa [safeN, kingN, wayN] using qs
          go_wp2_with (go_at_call 55; refine (attackersOf_any b off cap L 60 _ _ (by omega) hbw).mono ?_; rintro e w1 ⟨a, cp, rfl, hb1⟩)
          go_roundg (3 - 1)
          case measure => have := Hg.out; omega
          case rel =>
            refine ⟨1, by omega, rfl, rfl, hbel.trans (hb1.mono (by omega)), fun j hj => ?_⟩
            by_cases hj' : j = 0
            · rw [hj']; exact qs
            · exact Hs.out j (by omega)
      · cases qs : safeN ⟨L, 1, castle, ep, half, full⟩ 3 1
        case false =>
          have hpos : 0 < (attackersL L 59 (1 - 1) 64).length := by simpa [safeN, kingN, wayN] using qs
          go_wp2_with (go_at_call 55; refine (attackersOf_any b off cap L 59 _ _ (by omega) hbw).mono ?_; rintro e w1 ⟨a, cp, rfl, hb1⟩)
          go_ret
          exact ⟨congrArg (fun x => Ending.returned (.int .i64 x)) (castle_hit HE.out HF.out 1 (by omega) qs).symm, hb0.trans ((hbel.trans (hb1.mono (by omega))).mono (by omega))⟩
        case true =>
          have hpos : ¬ 0 < (attackersL L 59 (1 - 1) 64).length := by simpa [safeN, kingN, wayN] using qs
          go_wp2_with (go_at_call 55; refine (attackersOf_any b off cap L 59 _ _ (by omega) hbw).mono ?_; rintro e w1 ⟨a, cp, rfl, hb1⟩)
          go_roundg (3 - 2)
          case measure => have := Hg.out; omega
          case rel =>
            refine ⟨2, by omega, rfl, rfl, hbel.trans (hb1.mono (by omega)), fun j hj => ?_⟩
            by_cases hj' : j = 1
            · rw [hj']; exact qs
            · exact Hs.out j (by omega)
      · cases qs : safeN ⟨L, 1, castle, ep, half, full⟩ 3 2
        case false =>
          have hpos : 0 < (attackersL L 58 (1 - 1) 64).length := by simpa [safeN, kingN, wayN] using qs
          go_wp2_with (go_at_call 55; refine (attackersOf_any b off cap L 58 _ _ (by omega) hbw).mono ?_; rintro e w1 ⟨a, cp, rfl, hb1⟩)
          go_ret
          exact ⟨congrArg (fun x => Ending.returned (.int .i64 x)) (castle_hit HE.out HF.out 2 (by omega) qs).symm, hb0.trans ((hbel.trans (hb1.mono (by omega))).mono (by omega))⟩
        case true =>
          have hpos : ¬ 0 < (attackersL L 58 (1 - 1) 64).length := by simpa [safeN, kingN, wayN] using qs
          go_wp2_with (go_at_call 55; refine (attackersOf_any b off cap L 58 _ _ (by omega) hbw).mono ?_; rintro e w1 ⟨a, cp, rfl, hb1⟩)
          go_roundg (3 - 3)
          case measure => have := Hg.out; omega
          case rel =>
            refine ⟨3, by omega, rfl, rfl, hbel.trans (hb1.mono (by omega)), fun j hj => ?_⟩
            by_cases hj' : j = 2
            · rw [hj']; exact qs
            · exact Hs.out j (by omega)
      · go_wp2
        go_ret
        exact ⟨congrArg (fun x => Ending.returned (.int .i64 x)) (castle_yes HE.out HF.out Hs.out).symm, hb0.trans (hbel.mono (by omega))⟩

set_option maxHeartbeats 1000000 in
theorem castleTo_no0 (b off cap : Nat) (L : Nat → Int) (castle ep half full : Int) (w : World) (hc0 : 0 ≤ castle) (hc1 : castle < 16) :
    Calls Tryz.prog 31 #[chessV b off cap ⟨L, 1, castle, ep, half, full⟩, .int .i64 0] w (RetB (.int .i64 (castleToI ⟨L, 1, castle, ep, half, full⟩ 0)) w) := by
  simp only [chessV]
  cases qb : (bits BinOp.and IntKind.i64 (castle) 1 == 0)
  all_goals
    go_enter Tryz.func31, Tryz.ntmps31
    go_wp2
    go_ret
    exact ⟨by simp [castleToI], (Below.refl _ _).alloc (Nat.le_refl _) _⟩

set_option maxHeartbeats 1000000 in
theorem castleTo_no1 (b off cap : Nat) (L : Nat → Int) (castle ep half full : Int) (w : World) (hc0 : 0 ≤ castle) (hc1 : castle < 16) :
    Calls Tryz.prog 31 #[chessV b off cap ⟨L, 1, castle, ep, half, full⟩, .int .i64 1] w (RetB (.int .i64 (castleToI ⟨L, 1, castle, ep, half, full⟩ 1)) w) := by
  simp only [chessV]
  cases qb : (bits BinOp.and IntKind.i64 (castle / 2) 1 == 0)
  all_goals
    go_enter Tryz.func31, Tryz.ntmps31
    go_wp2
    go_ret
    exact ⟨by simp [castleToI], (Below.refl _ _).alloc (Nat.le_refl _) _⟩

set_option maxHeartbeats 1000000 in
theorem castleTo_no2 (b off cap : Nat) (L : Nat → Int) (castle ep half full : Int) (w : World) (hc0 : 0 ≤ castle) (hc1 : castle < 16) :
    Calls Tryz.prog 31 #[chessV b off cap ⟨L, 0, castle, ep, half, full⟩, .int .i64 2] w (RetB (.int .i64 (castleToI ⟨L, 0, castle, ep, half, full⟩ 2)) w) := by
  simp only [chessV]
  cases qb : (bits BinOp.and IntKind.i64 (castle / 4) 1 == 0)
  all_goals
    go_enter Tryz.func31, Tryz.ntmps31
    go_wp2
    go_ret
    exact ⟨by simp [castleToI], (Below.refl _ _).alloc (Nat.le_refl _) _⟩

set_option maxHeartbeats 1000000 in
theorem castleTo_no3 (b off cap : Nat) (L : Nat → Int) (castle ep half full : Int) (w : World) (hc0 : 0 ≤ castle) (hc1 : castle < 16) :
    Calls Tryz.prog 31 #[chessV b off cap ⟨L, 0, castle, ep, half, full⟩, .int .i64 3] w (RetB (.int .i64 (castleToI ⟨L, 0, castle, ep, half, full⟩ 3)) w) := by
  simp only [chessV]
  cases qb : (bits BinOp.and IntKind.i64 (castle / 8) 1 == 0)
  all_goals
    go_enter Tryz.func31, Tryz.ntmps31
    go_wp2
    go_ret
    exact ⟨by simp [castleToI], (Below.refl _ _).alloc (Nat.le_refl _) _⟩

theorem castleTo_any (b off cap : Nat) (p : Pos) (n : Nat) (w : World) (hn : n < 4) (hbr : Brd w b off p.L) (hs : p.turn = 0 ∨ p.turn = 1) (hc0 : 0 ≤ p.castle) (hc1 : p.castle < 16) :
    Calls Tryz.prog 31 #[chessV b off cap p, .int .i64 n] w (RetB (.int .i64 (castleToI p n)) w) := by
  obtain ⟨L, turn, castle, ep, half, full⟩ := p
  dsimp only at *
  have hcs : n = 0 ∨ n = 1 ∨ n = 2 ∨ n = 3 := by omega
  rcases hs with rfl | rfl <;> rcases hcs with rfl | rfl | rfl | rfl
  · exact castleTo_0 b off cap L castle ep half full w hbr hc0 hc1
  · exact castleTo_1 b off cap L castle ep half full w hbr hc0 hc1
  · exact castleTo_no2 b off cap L castle ep half full w hc0 hc1
  · exact castleTo_no3 b off cap L castle ep half full w hc0 hc1
  · exact castleTo_no0 b off cap L castle ep half full w hc0 hc1
  · exact castleTo_no1 b off cap L castle ep half full w hc0 hc1
  · exact castleTo_2 b off cap L castle ep half full w hbr hc0 hc1
  · exact castleTo_3 b off cap L castle ep half full w hbr hc0 hc1

end Go.Proofs.YthffhhbbhjcdeaaGreatDoor
