/- PLAIN LEAN: what the reference's walks ask of a position that may be; what the program makes of a move is what the reference makes of it. -/
import Derived.Test.YthffhhbbhjcdeaaGreatDoorP4
set_option linter.unusedVariables false
set_option linter.unusedSimpArgs false
namespace Go.Proofs.YthffhhbbhjcdeaaGreatDoor

theorem king_go {p : Pos} (hm : MayP p) {fr tg : Nat} (hf : fr < 64) (htg : tg < 64) (hgo : okGo p fr tg = true) : HasKing (doneL p ⟨fr, tg, 0⟩) p.turn := by
  have ht := hm.ok.turn
  have hc : (1 - 2 * p.turn) = 1 ∨ (1 - 2 * p.turn) = -1 := by omega
  by_cases hown : sideR (p.L fr) = p.turn
  · have hP : Pseu p ⟨fr, tg, if lastB p fr tg = true then 2 else 0⟩ := by
      refine ⟨hf, htg, hown, hgo, ?_⟩
      dsimp only
      split <;> simp
    have hN := shape_one hm hP (shape_of hm hP)
    have hin := into_bd hP
    have hK : ∃ k, k < 64 ∧ doneL p ⟨fr, tg, if lastB p fr tg = true then 2 else 0⟩ k = 6 * (1 - 2 * p.turn) := by
      by_cases h6 : p.L fr = 6 * (1 - 2 * p.turn)
      · exact ⟨tg, htg, (hN.1 tg).2 (by rw [if_pos h6])⟩
      · obtain ⟨k, hk, hku⟩ := hm.king _ ht
        exact ⟨k, hk, (hN.1 k).2 (by rw [if_neg h6]; exact (hku k).2 rfl)⟩
    obtain ⟨k, hk, he⟩ := hK
    refine ⟨k, hk, ?_⟩
    by_cases hl : lastB p fr tg = true
    · simp only [hl, if_true] at he
      have hs1 : sizeI (p.L fr) = 1 := by
        unfold lastB at hl; rw [Bool.and_eq_true] at hl; exact eq_of_beq hl.1
      have hlast : tg < 8 ∨ 55 < tg := by
        unfold lastB at hl; rw [Bool.and_eq_true, Bool.or_eq_true, decide_eq_true_eq, decide_eq_true_eq] at hl; exact hl.2
      have hne : ¬ (sizeI (p.L fr) = 1 ∧ (tg : Int) = p.ep) := by
        rintro ⟨_, he⟩
        have := ep_facts hm (by omega)
        omega
      rw [sizeI_two (p := p) (m := ⟨fr, tg, 2⟩) (by simp only; omega) hne] at he
      rw [sizeI_two (p := p) (m := ⟨fr, tg, 0⟩) (by simp only; omega) hne]
      unfold nb at he ⊢
      split
      · rename_i e
        rw [if_pos e] at he
        simp at he
        omega
      · rename_i e
        rw [if_neg e] at he
        exact he
    · have hl : lastB p fr tg = false := by simpa using hl
      simp only [hl, Bool.false_eq_true, if_false] at he
      exact he
  · unfold okGo at hgo
    rw [Bool.or_eq_true] at hgo
    rcases hgo with hgo | hgo
    · exfalso
      apply hown
      rw [sideR_own ht]
      unfold mayGoB at hgo
      dsimp only at hgo
      split at hgo
      · cases hgo
      · rename_i hn
        have := fun h => hn (.inl h)
        omega
    · unfold castB kingB at hgo
      simp only [Bool.and_eq_true, beq_iff_eq, List.any_eq_true, List.mem_range] at hgo
      obtain ⟨hk, n, hn, h⟩ := hgo
      obtain ⟨h1, h2, h3, h4, h5⟩ := castle_ne h (by omega)
      have hb : p.castle / 2 ^ n % 2 = 1 := by omega
      obtain ⟨r1, r2⟩ := hm.right n hn hb
      rw [hue_turn hn h2] at r1 r2
      have hfr : fr ≠ homeN n := by
        intro e
        apply hown
        rw [sideR_own ht, e, r1]
        rcases hc with hc | hc <;> rw [hc] <;> omega
      refine ⟨homeN n, by match n, hn with | 0, _ | 1, _ | 2, _ | 3, _ => decide, ?_⟩
      have hat : homeN n ≠ tg ∧ (sizeI ((tg : Int) - fr) = 2 → homeN n ≠ (fr + tg) / 2 ∧ homeN n ≠ cornerN ⟨fr, tg, 0⟩) := by
        clear r1 r2 h3 h4 h1 hb h
        unfold cornerN sizeI
        dsimp only
        match n, hn with
        | 0, _ | 1, _ | 2, _ | 3, _ =>
          simp [kingN, wayN] at h5
          simp [homeN] at hfr ⊢
          refine ⟨by omega, fun h6 => ?_⟩
          split at h6 <;> (split <;> omega)
      unfold doneL
      have hD3 : doneL3 p ⟨fr, tg, 0⟩ (homeN n) = 6 * (1 - 2 * p.turn) := by
        unfold doneL3
        dsimp only
        rw [if_neg (by rw [hk]; omega)]
        unfold doneL2 doneL1
        simp only [upd, Int.lt_irrefl, if_false]
        rw [if_neg hat.1, if_neg (Ne.symm hfr), r1]
        omega
      split
      · rename_i h6
        have := hat.2 h6.2
        unfold upd
        rw [if_neg this.2, if_neg this.1]
        exact hD3
      · exact hD3

theorem posM_of {p : Pos} (hm : MayP p) : PosM p := by
  have ht := hm.ok.turn
  refine ⟨hm.ok, fun fr tg hf h hgo => king_go hm hf h hgo, ?_, ?_, ?_, ?_⟩
  · intro q hq
    rw [mem_movesR] at hq
    have := into_bd hq.1
    exact ⟨hq.1.fr, hq.1.tg, this.1, this.2⟩
  · intro q hq
    rw [mem_movesR] at hq
    exact (mayP_next hm hq.1 hq.2).ok
  · intro q hq
    rw [mem_movesR] at hq
    obtain ⟨k, hk, hku⟩ := (mayP_next hm hq.1 hq.2).king (1 - p.turn) (by omega)
    exact ⟨k, hk, (hku k).2 rfl⟩
  · intro q hq fr tg hf h hgo
    rw [mem_movesR] at hq
    exact king_go (mayP_next hm hq.1 hq.2) hf h hgo

/-! ### After, as the program has it -/
/-- The board behind a move, as the program makes it. -/
def aftL (p : Pos) (m : Mv) : Nat → Int :=
  if sizeI (p.L m.fr) = 1 then
    (if (m.tg : Int) = p.ep then upd (doneL1 p m) ((m.tg : Int) - 8 * (1 - 2 * p.turn)).toNat 0
     else if (m.tg : Int) - m.fr = 16 * (1 - 2 * p.turn) then doneL1 p m
     else if 0 < m.into then upd (doneL1 p m) m.tg (m.into * (1 - 2 * p.turn)) else doneL1 p m)
  else if sizeI (p.L m.fr) = 6 then
    (if (m.tg : Int) - m.fr = 2 then upd (upd (doneL1 p m) (m.fr + 1) (doneL1 p m (m.fr + 3))) (m.fr + 3) 0
     else if (m.tg : Int) - m.fr = -2 then upd (upd (doneL1 p m) (m.fr - 1) (doneL1 p m (m.fr - 4))) (m.fr - 4) 0
     else doneL1 p m)
  else doneL1 p m
def aftEp (p : Pos) (m : Mv) : Int := if sizeI (p.L m.fr) = 1 ∧ (m.tg : Int) ≠ p.ep ∧ (m.tg : Int) - m.fr = 16 * (1 - 2 * p.turn) then m.fr + 8 * (1 - 2 * p.turn) else -1
def aftHalf (p : Pos) (m : Mv) : Int := if p.L m.tg ≠ 0 ∨ sizeI (p.L m.fr) = 1 then 0 else min (p.half + 1) 999
def clrI (n : Nat) (c : Int) : Int := if c / 2 ^ n % 2 = 1 then c - 2 ^ n else c
def aftC0 (p : Pos) (m : Mv) : Int := if sizeI (p.L m.fr) = 6 then clrI (2 * p.turn.toNat + 1) (clrI (2 * p.turn.toNat) p.castle) else p.castle
def aftC (p : Pos) (m : Mv) : Nat → Int
  | 0 => aftC0 p m
  | n + 1 => if m.fr = rookN n ∨ m.tg = rookN n then clrI n (aftC p m n) else aftC p m n
def aftP (p : Pos) (m : Mv) : Pos := { L := aftL p m, turn := 1 - p.turn, castle := aftC p m 4, ep := aftEp p m, half := aftHalf p m, full := min (p.full + p.turn) 999 }

theorem clr_same : ∀ c : Nat, c < 16 → ∀ k : Bool, ∀ t < 2, ∀ b0 b1 b2 b3 : Bool,
    let s := fun (b : Bool) (n : Nat) (c : Int) => if b = true ∧ c / 2 ^ n % 2 = 1 then c - 2 ^ n else c
    let q := fun (b : Bool) (n : Nat) (c : Int) => if b = true then clrI n c else c
    q b3 3 (q b2 2 (q b1 1 (q b0 0 (if k = true then clrI (2 * t + 1) (clrI (2 * t) (c : Int)) else (c : Int))))) =
    s (b3 || (k && (1 == t))) 3 (s (b2 || (k && (1 == t))) 2 (s (b1 || (k && (0 == t))) 1 (s (b0 || (k && (0 == t))) 0 ((c : Nat) : Int)))) := by decide +kernel

theorem aftC_eq {p : Pos} (m : Mv) (ht : p.turn = 0 ∨ p.turn = 1) (h0 : 0 ≤ p.castle) (h1 : p.castle < 16) : aftC p m 4 = castleA p m 4 := by
  obtain ⟨c, hc⟩ := Int.eq_ofNat_of_zero_le h0
  have h := clr_same c (by omega) (sizeI (p.L m.fr) == 6) p.turn.toNat (by omega) (decide (m.fr = 7 ∨ m.tg = 7)) (decide (m.fr = 0 ∨ m.tg = 0)) (decide (m.fr = 63 ∨ m.tg = 63)) (decide (m.fr = 56 ∨ m.tg = 56))
  have e : ∀ n, n < 4 → lostB p m n = (decide (m.fr = rookN n ∨ m.tg = rookN n) || ((sizeI (p.L m.fr) == 6) && (n / 2 == p.turn.toNat))) := by
    intro n hn
    unfold lostB
    have e1 : ((((n / 2 : Nat) : Int)) == p.turn) = (n / 2 == p.turn.toNat) := by
      rw [Bool.eq_iff_iff]; simp only [beq_iff_eq]; omega
    rw [e1, Bool.decide_or]
    rfl
  have e0 := e 0 (by omega)
  have e1 := e 1 (by omega)
  have e2 := e 2 (by omega)
  have e3 := e 3 (by omega)
  simp only [rookN, Nat.reduceDiv] at e0 e1 e2 e3
  have s : ∀ n, aftC p m (n + 1) = if decide (m.fr = rookN n ∨ m.tg = rookN n) = true then clrI n (aftC p m n) else aftC p m n := by
    intro n; simp [aftC]
  have s0 : aftC p m 0 = if (sizeI (p.L m.fr) == 6) = true then clrI (2 * p.turn.toNat + 1) (clrI (2 * p.turn.toNat) p.castle) else p.castle := by
    simp [aftC, aftC0]
  rw [s, s, s, s, s0]
  simp only [castleA, castleS, e0, e1, e2, e3, rookN, hc]
  exact h

theorem aftL_eq {p : Pos} (hm : MayP p) {m : Mv} (h : Pseu p m) : aftL p m = doneL p m ∧ aftEp p m = epR p m := by
  have ht := hm.ok.turn
  have hc : (1 - 2 * p.turn) = 1 ∨ (1 - 2 * p.turn) = -1 := by omega
  have hin := into_bd h
  have hep := ep_kinds hm h
  by_cases hs1 : sizeI (p.L m.fr) = 1
  · have hn6 : ¬ sizeI (p.L m.fr) = 6 := by omega
    have hD : doneL p m = doneL3 p m := by unfold doneL; rw [if_neg (by omega)]
    rw [hD]
    have hx : p.L m.fr = 1 - 2 * p.turn := by
      have := own_size ht (own_pos ht h.own)
      rcases ht with ht | ht <;> rw [ht] at this ⊢ <;> omega
    have hinto := h.into
    by_cases he : (m.tg : Int) = p.ep
    · have hpe := ep_facts hm (by omega)
      have hi0 : ¬ 0 < m.into := by
        rw [if_neg] at hinto
        · omega
        · unfold lastB; simp; omega
      constructor
      · unfold aftL doneL3 doneL2
        rw [if_pos hs1, if_pos he, if_pos ⟨hs1, he⟩, if_neg hi0]
      · unfold aftEp
        rw [if_neg (by omega)]
        rcases hep with hep | hep
        · exact hep.symm
        · exact absurd he hep.2.2.2.2.2.2.1
    · rcases hep with hep | ⟨_, ha, hf, h2, hb, hi, _, hep⟩
      · have h16 : ¬ (m.tg : Int) - m.fr = 16 * (1 - 2 * p.turn) := by
          intro h16
          unfold epR at hep
          rw [if_pos ⟨hs1, by rw [h16]; rcases hc with hc | hc <;> rw [hc] <;> decide⟩] at hep
          omega
        constructor
        · have hn : ¬ (sizeI (p.L m.fr) = 1 ∧ (m.tg : Int) = p.ep) := fun h => he h.2
          unfold aftL doneL3 doneL2
          rw [if_pos hs1, if_neg he, if_neg h16, if_neg hn]
          split
          · rw [Int.mul_comm]
          · rfl
        · unfold aftEp
          rw [if_neg (fun h => h16 h.2.2), hep]
      · constructor
        · have hn : ¬ (sizeI (p.L m.fr) = 1 ∧ (m.tg : Int) = p.ep) := fun h => he h.2
          unfold aftL doneL3 doneL2
          rw [if_pos hs1, if_neg he, if_pos (by omega), if_neg hn, if_neg (by omega)]
        · unfold aftEp
          rw [if_pos ⟨hs1, he, by omega⟩, hep]
  · have hD3 : doneL3 p m = doneL1 p m := by
      have hi := h.into
      rw [if_neg (by unfold lastB; simp; omega)] at hi
      unfold doneL3 doneL2; rw [if_neg (by omega), if_neg (by omega)]
    have hE : aftEp p m = epR p m := by
      unfold aftEp epR; rw [if_neg (by omega), if_neg (by omega)]
    refine ⟨?_, hE⟩
    unfold aftL doneL
    rw [if_neg hs1, hD3]
    by_cases hs6 : sizeI (p.L m.fr) = 6
    · rw [if_pos hs6]
      have h2 : sizeI ((m.tg : Int) - m.fr) = 2 → ((m.tg : Int) - m.fr = 2 ∨ (m.tg : Int) - m.fr = -2) := by unfold sizeI; split <;> omega
      cases kinds_of hm h with
      | piece h1 ha h3 hi hk =>
        have h4 : ¬ (m.tg : Int) - m.fr = 2 := fun e => hk ⟨hs6, by rw [e]; decide⟩
        have h5 : ¬ (m.tg : Int) - m.fr = -2 := fun e => hk ⟨hs6, by rw [e]; decide⟩
        rw [if_neg h4, if_neg h5, if_neg hk]
      | takes hx ha hb h2 he => exact absurd (by rw [hx]; exact size_own ht) hs1
      | over hx ha hb h2 he hi => exact absurd (by rw [hx]; exact size_own ht) hs1
      | one hx ha h2 he => exact absurd (by rw [hx]; exact size_own ht) hs1
      | two hx ha hf h2 hb hi he => exact absurd (by rw [hx]; exact size_own ht) hs1
      | cast n hC hi =>
        obtain ⟨e1, e2, _, _⟩ := cast_land hC
        have h4 := hC.n4
        have hs2 : sizeI ((m.tg : Int) - m.fr) = 2 := by
          rw [e1, e2]
          match n, h4 with
          | 0, _ | 1, _ | 2, _ | 3, _ => decide
        rw [if_pos (show sizeI (p.L m.fr) = 6 ∧ sizeI ((m.tg : Int) - m.fr) = 2 from ⟨hs6, hs2⟩)]
        unfold cornerN
        rw [e1, e2]
        match n, h4 with
        | 0, _ | 1, _ | 2, _ | 3, _ => simp [homeN, landN]
    · rw [if_neg hs6, if_neg (by omega)]

/-- What the program makes of a move is what the reference makes of it. -/
theorem aftP_eq {p : Pos} (hm : MayP p) {m : Mv} (h : Pseu p m) : aftP p m = doneR p m := by
  have ht := hm.ok.turn
  obtain ⟨h1, h2⟩ := aftL_eq hm h
  have hf1 := hm.ok.f1
  unfold aftP doneR
  rw [h1, h2, aftC_eq m ht hm.ok.c0 hm.ok.c1]
  have e3 : aftHalf p m = halfR p m := by
    unfold aftHalf halfR
    by_cases h3 : sizeI (p.L m.fr) = 1 ∨ p.L m.tg ≠ 0
    · rw [if_pos h3, if_pos (by omega)]
    · rw [if_neg h3, if_neg (by omega)]; split <;> omega
  have e4 : min (p.full + p.turn) 999 = fullR p m := by
    unfold fullR; split <;> omega
  rw [e3, e4]

end Go.Proofs.YthffhhbbhjcdeaaGreatDoor
