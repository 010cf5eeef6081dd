/- WALKS: small functions of the reference; Attacks. -/
import Derived.Test.YthffhhbbhjcdeaaGreatDoorB
set_option linter.unusedVariables false
set_option linter.unusedSimpArgs false
namespace Go.Proofs.YthffhhbbhjcdeaaGreatDoor
open Go.RowKit
set_option maxRecDepth 100000

set_option maxHeartbeats 400000 in
theorem within_any (a b c : Int) (w : World) : Calls Tryz.prog 25 #[.int .i64 a, .int .i64 b, .int .i64 c] w (RetW (.bool (decide (b ≤ a) && decide (a ≤ c))) w) := by
  go_enter Tryz.func25, Tryz.ntmps25
  go_wp2
  all_goals (go_ret; exact ⟨by simp [*]; try omega, rfl⟩)

set_option maxHeartbeats 400000 in
theorem size_any (a : Int) (w : World) (h1 : -9223372036854775807 ≤ a) (h2 : a ≤ 9223372036854775807) : Calls Tryz.prog 26 #[.int .i64 a] w (RetW (.int .i64 (sizeI a)) w) := by
  go_enter Tryz.func26, Tryz.ntmps26
  go_wp2
  all_goals (go_ret; exact ⟨by simp [sizeI, *]; try omega, rfl⟩)

set_option maxHeartbeats 400000 in
theorem signOf_any (a : Int) (w : World) : Calls Tryz.prog 92 #[.int .i64 a] w (RetW (.int .i64 (sgnI a)) w) := by
  go_enter Tryz.func92, Tryz.ntmps92
  go_wp2
  all_goals (go_ret; exact ⟨by simp [sgnI, *]; try omega, rfl⟩)

set_option maxHeartbeats 400000 in
theorem pieceSide_any (a : Int) (w : World) : Calls Tryz.prog 29 #[.int .i64 a] w (RetW (.int .i64 (sideR a)) w) := by
  go_enter Tryz.func29, Tryz.ntmps29
  go_wp2
  all_goals (go_ret; exact ⟨by simp [sideR, *]; try omega, rfl⟩)

theorem dxI_bd (fr tg : Nat) : -7 ≤ dxI fr tg ∧ dxI fr tg ≤ 7 := by unfold dxI; omega
theorem dyI_bd (fr tg : Nat) (h : fr < 64) (h' : tg < 64) : -7 ≤ dyI fr tg ∧ dyI fr tg ≤ 7 := by unfold dyI; omega

theorem attacks_no {L : Nat → Int} {fr tg : Nat} {dx dy x : Int} {sl st : Bool} (hdx : dxI fr tg = dx) (hdy : dyI fr tg = dy) (hx : L fr = x) (hA : ¬ (dx = 0 ∧ dy = 0))
    (k1 : (sizeI x == 1) = false) (k2 : (sizeI x == 2) = false) (k6 : (sizeI x == 6) = false) (hsl : (sizeI dx == sizeI dy) = sl) (hst : ((dx == 0) || (dy == 0)) = st)
    (hB : ((x == 0) || (!sl && !st) || ((sizeI x == 3) && !sl) || ((sizeI x == 4) && !st)) = true) : Ending.returned (.bool false) = Ending.returned (.bool (attacksB L fr tg)) := by
  have e : attacksB L fr tg = false := by
    simp at k1 k2 k6
    simp only [attacksB, slantB, straightB, hdx, hdy, hx, hsl, hst, if_neg hA, k1, k2, k6, if_false]
    rw [if_pos]
    simp at hB
    rcases hB with ((h | h) | h) | h <;> simp [h]
  rw [e]

theorem attacks_way {L : Nat → Int} {fr tg : Nat} {dx dy x : Int} {sl st : Bool} (hdx : dxI fr tg = dx) (hdy : dyI fr tg = dy) (hx : L fr = x) (hA : ¬ (dx = 0 ∧ dy = 0))
    (k1 : (sizeI x == 1) = false) (k2 : (sizeI x == 2) = false) (k6 : (sizeI x == 6) = false) (hsl : (sizeI dx == sizeI dy) = sl) (hst : ((dx == 0) || (dy == 0)) = st)
    (hB : ((x == 0) || (!sl && !st) || ((sizeI x == 3) && !sl) || ((sizeI x == 4) && !st)) = false) : attacksB L fr tg = freeWay L fr tg := by
  simp at k1 k2 k6
  simp only [attacksB, slantB, straightB, hdx, hdy, hx, hsl, hst, if_neg hA, k1, k2, k6, if_false]
  rw [if_neg]
  simp at hB
  rintro (h | h | h | h)
  · exact absurd h hB.1.1.1
  · simp [h] at hB
  · simp [h] at hB
  · simp [h] at hB

theorem way_of {L : Nat → Int} {fr tg : Nat} {dx dy x : Int} {sl st : Bool} (hf : fr < 64) (ht : tg < 64) (hdx : dxI fr tg = dx) (hdy : dyI fr tg = dy) (hx : L fr = x) (hA : ¬ (dx = 0 ∧ dy = 0))
    (hsl : (sizeI dx == sizeI dy) = sl) (hst : ((dx == 0) || (dy == 0)) = st)
    (hB : ((x == 0) || (!sl && !st) || ((sizeI x == 3) && !sl) || ((sizeI x == 4) && !st)) = false) : 1 ≤ farI fr tg ∧
    ∀ j, j ≤ farI fr tg → ((onWay fr tg j : Nat) : Int) = (fr : Int) + j * stepI fr tg ∧ onWay fr tg j < 64 ∧ (onWay fr tg j = tg ↔ j = farI fr tg) := by
  have h := wayFact_all fr hf tg ht
  have hss : (slantB fr tg || straightB fr tg) = true := by
    simp only [slantB, straightB, hdx, hdy, hsl, hst]
    simp at hB
    cases sl <;> cases st <;> simp_all
  have hne : fr ≠ tg := by
    rintro rfl
    apply hA
    rw [← hdx, ← hdy]
    simp [dxI, dyI]
  unfold wayFact at h
  simp only [hss, Bool.not_true, Bool.false_or, Bool.or_eq_true, beq_iff_eq, hne, false_or, Bool.and_eq_true, decide_eq_true_eq, List.all_eq_true, List.mem_range, Bool.not_eq_true', beq_eq_false_iff_ne] at h
  obtain ⟨⟨h1, h2⟩, h3⟩ := h
  refine ⟨h2, fun j hj => ?_⟩
  obtain ⟨⟨a, b⟩, c⟩ := h3 j (by omega)
  have e : ((onWay fr tg j : Nat) : Int) = (fr : Int) + j * stepI fr tg := by unfold onWay; omega
  refine ⟨e, by omega, ?_⟩
  constructor
  · intro h4
    rcases c with c | c
    · exact c
    · exact absurd (by omega) c
  · rintro rfl
    omega

theorem natAbs_bound {x : Int} (h1 : -7 ≤ x) (h2 : x ≤ 7) {y : Int} (h3 : -7 ≤ y) (h4 : y ≤ 7) : -9223372036854775807 ≤ x * y ∧ x * y ≤ 9223372036854775807 := by
  have a1 : -49 ≤ x * y := by
    rcases Int.le_total 0 x with hx | hx <;> rcases Int.le_total 0 y with hy | hy
    · have := Int.mul_nonneg hx hy; omega
    · have := Int.mul_le_mul_of_nonneg_left h3 hx; omega
    · have := Int.mul_le_mul_of_nonneg_right h1 hy; omega
    · have := Int.mul_nonneg_of_nonpos_of_nonpos hx hy; omega
  have a2 : x * y ≤ 49 := by
    rcases Int.le_total 0 x with hx | hx <;> rcases Int.le_total 0 y with hy | hy
    · have := Int.mul_le_mul h2 h4 hy (by omega); omega
    · have := Int.mul_nonpos_of_nonneg_of_nonpos hx hy; omega
    · have := Int.mul_nonpos_of_nonpos_of_nonneg hx hy; omega
    · have e : x * y = (-x) * (-y) := by rw [Int.neg_mul_neg]
      have := Int.mul_le_mul (show -x ≤ 7 by omega) (show -y ≤ 7 by omega) (by omega) (by omega); omega
  omega

theorem sgnI_bd (x : Int) : -1 ≤ sgnI x ∧ sgnI x ≤ 1 := by unfold sgnI; split <;> (try split) <;> omega

theorem freeWay_yes {L : Nat → Int} {fr tg j : Nat} (hj : j = farI fr tg) (hz : ∀ i, 1 ≤ i → i < j → L (onWay fr tg i) = 0) : freeWay L fr tg = true := by
  unfold freeWay
  simp only [List.all_eq_true, List.mem_range, Bool.or_eq_true, beq_iff_eq]
  intro i hi
  by_cases h : i = 0
  · exact .inl h
  · exact .inr (hz i (by omega) (by omega))

theorem freeWay_no {L : Nat → Int} {fr tg j : Nat} (hj1 : 1 ≤ j) (hj : j < farI fr tg) (hz : ¬ L (onWay fr tg j) = 0) : freeWay L fr tg = false := by
  unfold freeWay
  rw [List.all_eq_false]
  exact ⟨j, by simpa using hj, by simp [hz]; omega⟩

set_option maxHeartbeats 2000000 in
theorem attacks_any (b off cap : Nat) (L : Nat → Int) (fr tg : Nat) (w : World) (hf : fr < 64) (ht : tg < 64) (hbr : Brd w b off L) :
    Calls Tryz.prog 58 #[.slice (some ⟨b, off, none⟩) 64 cap, .int .i64 fr, .int .i64 tg] w (RetW (.bool (attacksB L fr tg)) w) := by
  have hcf := hbr.cell fr hf
  have hx1 := (hbr.bd fr).1
  have hx2 := (hbr.bd fr).2
  have dx1 := (dxI_bd fr tg).1
  have dx2 := (dxI_bd fr tg).2
  have dy1 := (dyI_bd fr tg hf ht).1
  have dy2 := (dyI_bd fr tg hf ht).2
  have hm1 := (natAbs_bound dx1 dx2 dy1 dy2).1
  have hm2 := (natAbs_bound dx1 dx2 dy1 dy2).2
  go_enter Tryz.func58, Tryz.ntmps58
  go_upto_region 1 with fail
  go_cut [7, 8] (fun p q wx => p = .int .i64 (dxI fr tg) ∧ q = .int .i64 (dyI fr tg) ∧ w = wx)
  case first =>
    go_wp2
    go_meet
    exact ⟨rfl, rfl, rfl⟩
  case rest =>
  obtain ⟨rfl, rfl, rfl⟩ := hcut
  generalize hdx : dxI fr tg = dx at *
  generalize hdy : dyI fr tg = dy at *
  have Hdx := Lib.hid hdx
  have Hdy := Lib.hid hdy
  clear hdx hdy
  generalize hx : L fr = x at *
  have Hx := Lib.hid hx
  clear hx
  go_upto_region 3 with fail
  go_cut [32] (fun c wx => c = .bool ((dx == 0) && (dy == 0)) ∧ w = wx)
  case first =>
    cases hA : (dx == 0)
    all_goals (go_wp2; go_meet; exact ⟨by simp [*], rfl⟩)
  case rest =>
  obtain ⟨rfl, rfl⟩ := hcut
  cases hA : ((dx == 0) && (dy == 0))
  case true =>
    go_wp2
    go_ret
    exact ⟨by simp at hA; simp [attacksB, Hdx.out, Hdy.out, hA], rfl⟩
  have hA' : ¬ (dx = 0 ∧ dy = 0) := by simpa using hA
  have HA := Lib.hid hA'
  clear hA'
  cases k1 : (sizeI x == 1)
  case true =>
    cases s1 : (sizeI dx == 1)
    all_goals
      go_wp2_with (go_at_call 26; refine (size_any _ _ (by omega) (by omega)).mono ?_; rintro e w' ⟨rfl, rfl⟩)
      go_ret
      exact ⟨by simp at k1; simp [attacksB, Hdx.out, Hdy.out, Hx.out, HA.out, k1, s1], rfl⟩
  cases k2 : (sizeI x == 2)
  case true =>
    go_wp2_with (go_at_call 26; refine (size_any _ _ (by omega) (by omega)).mono ?_; rintro e w' ⟨rfl, rfl⟩)
    go_ret
    exact ⟨by simp at k1 k2; simp [attacksB, Hdx.out, Hdy.out, Hx.out, HA.out, k1, k2], rfl⟩
  cases k6 : (sizeI x == 6)
  case true =>
    cases s1 : decide (sizeI dx ≤ 1)
    all_goals
      go_wp2_with (go_at_call 26; refine (size_any _ _ (by omega) (by omega)).mono ?_; rintro e w' ⟨rfl, rfl⟩)
      go_ret
      exact ⟨by simp at k1 k2 k6; simp [attacksB, Hdx.out, Hdy.out, Hx.out, HA.out, k1, k2, k6, s1], rfl⟩
  go_upto_region 12 with (go_at_call 26; refine (size_any _ _ (by omega) (by omega)).mono ?_; rintro e w' ⟨rfl, rfl⟩)
  go_cut [10, 11] (fun c d wx => c = .bool (sizeI dx == sizeI dy) ∧ d = .bool ((dx == 0) || (dy == 0)) ∧ w = wx)
  case first =>
    cases hB : (dx == 0)
    all_goals
      go_wp2_with (go_at_call 26; refine (size_any _ _ (by omega) (by omega)).mono ?_; rintro e w' ⟨rfl, rfl⟩)
      go_meet
      exact ⟨rfl, by simp [*], rfl⟩
  case rest =>
  obtain ⟨rfl, rfl, rfl⟩ := hcut
  generalize hsl : (sizeI dx == sizeI dy) = sl
  generalize hst : ((dx == 0) || (dy == 0)) = st
  have Hsl := Lib.hid hsl
  have Hst := Lib.hid hst
  clear hsl hst
  go_upto_region 13 with fail
  go_cut [100] (fun c wx => c = .bool ((x == 0) || (!sl && !st) || ((sizeI x == 3) && !sl) || ((sizeI x == 4) && !st)) ∧ w = wx)
  case first =>
    cases sl <;> cases st <;> cases hB : (x == 0) <;> cases k3 : (sizeI x == 3) <;> cases k4 : (sizeI x == 4)
    all_goals
      go_wp2_with (go_at_call 26; refine (size_any _ _ (by omega) (by omega)).mono ?_; rintro e w' ⟨rfl, rfl⟩)
      go_meet
      exact ⟨by simp [*], rfl⟩
  case rest =>
  obtain ⟨rfl, rfl⟩ := hcut
  cases hB : ((x == 0) || (!sl && !st) || ((sizeI x == 3) && !sl) || ((sizeI x == 4) && !st))
  case true =>
    go_wp2
    go_ret
    exact ⟨attacks_no Hdx.out Hdy.out Hx.out HA.out k1 k2 k6 Hsl.out Hst.out hB, rfl⟩
  have hfin := attacks_way Hdx.out Hdy.out Hx.out HA.out k1 k2 k6 Hsl.out Hst.out hB
  have Hfin := Lib.hid hfin
  clear hfin
  obtain ⟨hn1, hway⟩ := way_of hf ht Hdx.out Hdy.out Hx.out HA.out Hsl.out Hst.out hB
  have Hway := Lib.hid hway
  clear hway
  have sx1 := (sgnI_bd dx).1
  have sx2 := (sgnI_bd dx).2
  have sy1 := (sgnI_bd dy).1
  have sy2 := (sgnI_bd dy).2
  have hstp : stepI fr tg = sgnI dx + 8 * sgnI dy := by rw [stepI, Hdx.out, Hdy.out]
  have Hstp := Lib.hid hstp
  clear hstp
  go_wp2_with (go_at_call 92; refine (signOf_any _ _).mono ?_; rintro e w' ⟨rfl, rfl⟩)
  go_loopg [12] (farI fr tg - 1) (fun g s12 wx => w = wx ∧ ∃ j : Nat, 1 ≤ j ∧ j ≤ farI fr tg ∧ g = farI fr tg - j ∧ s12 = .int .i64 (onWay fr tg j) ∧ ∀ i, 1 ≤ i → i < j → L (onWay fr tg i) = 0)
  case atStart =>
    refine ⟨rfl, 1, Nat.le_refl _, hn1, ?_, ?_, fun i h1 h2 => absurd h2 (by omega)⟩
    · rfl
    · have := (Hway.out 1 hn1).1
      rw [Hstp.out] at this
      rw [this]
      exact congrArg _ (by omega)
  case round =>
    obtain ⟨rfl, j, hj1, hj2, hg, rfl, hz⟩ := hrel
    have Hz := Lib.hid hz
    have Hg := Lib.hid hg
    clear hz hg
    obtain ⟨e1, e2, e3⟩ := Hway.out j hj2
    generalize hk : onWay fr tg j = k at *
    have Hk := Lib.hid hk
    have He1 := Lib.hid e1
    have He3 := Lib.hid e3
    clear hk e1 e3
    cases hq : ((k : Int) == tg)
    case true =>
      go_wp2
      go_ret
      have hj : j = farI fr tg := He3.out.1 (by simp at hq; omega)
      refine ⟨?_, rfl⟩
      rw [Hfin.out]
      exact congrArg (fun b => Ending.returned (.bool b)) (freeWay_yes hj Hz.out).symm
    have hck := hbr.cell k e2
    cases hq0 : (L k == 0)
    case false =>
      go_wp2
      go_ret
      refine ⟨?_, rfl⟩
      rw [Hfin.out]
      refine congrArg (fun b => Ending.returned (.bool b)) (freeWay_no hj1 ?_ (by rw [Hk.out]; simpa using hq0)).symm
      have : ¬ j = farI fr tg := fun h => by have := He3.out.2 h; simp at hq; omega
      omega
    case true =>
      have hjn : j + 1 ≤ farI fr tg := by
        have : ¬ j = farI fr tg := fun h => by have := He3.out.2 h; simp at hq; omega
        omega
      obtain ⟨f1, f2, f3⟩ := Hway.out (j + 1) hjn
      have hb1 : (k : Int) + (sgnI dx + 8 * sgnI dy) = (onWay fr tg (j + 1) : Nat) := by
        rw [f1, He1.out, Hstp.out, Int.natCast_add, Int.add_mul]
        omega
      have Hb1 := Lib.hid hb1
      clear hb1 f1 f3
      go_wp2_with (go_at_call 92; refine (signOf_any _ _).mono ?_; rintro e w' ⟨rfl, rfl⟩)
      go_roundg (farI fr tg - (j + 1))
      case measure => have := Hg.out; omega
      case rel =>
        refine ⟨rfl, j + 1, by omega, hjn, rfl, ?_, ?_⟩
        · rw [← Hb1.out]
        · intro i h1 h2
          by_cases hi : i = j
          · rw [hi, Hk.out]; simpa using hq0
          · exact Hz.out i h1 (by omega)

end Go.Proofs.YthffhhbbhjcdeaaGreatDoor
