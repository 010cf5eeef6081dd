/- PLAIN LEAN: a position that may be; the kinds of moves; what they make of the board. PLAIN LEAN: a move that may be made leaves a position that may be. PLAIN LEAN: a move that may be made leaves a position that may be (joined). -/
import Derived.Test.YthffhhbbhjcdeaaGreatDoorA14
import Derived.Test.YthffhhbbhjcdeaaGreatDoorA15
import Derived.Test.YthffhhbbhjcdeaaGreatDoorP2
set_option linter.unusedVariables false
set_option linter.unusedSimpArgs false
namespace Go.Proofs.YthffhhbbhjcdeaaGreatDoor

structure MayP (p : Pos) : Prop where
  ok : PosOk p
  out : ∀ i, 64 ≤ i → p.L i = 0
  pawn : ∀ i, i < 64 → sizeI (p.L i) = 1 → 8 ≤ i ∧ i < 56
  king : ∀ s, s = 0 ∨ s = 1 → ∃ k, k < 64 ∧ ∀ i, p.L i = 6 * (1 - 2 * s) ↔ i = k
  calm : inCheckB p.L (1 - p.turn) = false
  right : ∀ n, n < 4 → p.castle / 2 ^ n % 2 = 1 → p.L (homeN n) = hueN n * 6 ∧ p.L (tourN n) = hueN n * 4
  pass : mayEp p = true

theorem count_one {L : Nat → Int} {x : Int} (h : countL L x 64 = 1) (ho : ∀ i, 64 ≤ i → L i = 0) (hx : x ≠ 0) : ∃ k, k < 64 ∧ ∀ i, L i = x ↔ i = k := by
  unfold countL at h
  rw [List.length_eq_one_iff] at h
  obtain ⟨k, hk⟩ := h
  have hm : ∀ i, i ∈ ((List.range 64).filter fun i => L i == x) ↔ i < 64 ∧ L i = x := by intro i; simp
  rw [hk] at hm
  have h1 := (hm k).1 (by simp)
  refine ⟨k, h1.1, fun i => ⟨fun hi => ?_, fun hi => by rw [hi]; exact h1.2⟩⟩
  have : i < 64 := by
    rcases Nat.lt_or_ge i 64 with h | h
    · exact h
    · exact absurd ((ho i h).symm.trans hi).symm hx
  simpa using (hm i).2 ⟨this, hi⟩

theorem mayP_of {p : Pos} (h : mayB 64 p = true) (ho : ∀ i, 64 ≤ i → p.L i = 0) : MayP p := by
  simp only [mayB, Bool.and_eq_true, Bool.not_eq_true', beq_iff_eq] at h
  obtain ⟨⟨⟨⟨h1, h2⟩, ⟨h3, h4⟩, h5⟩, h6⟩, h7⟩ := h
  simp only [mayHead, inR, Bool.and_eq_true, decide_eq_true_eq] at h1
  obtain ⟨⟨⟨⟨_, ht⟩, hc⟩, hh⟩, hf⟩ := h1
  have hbd := spotsB_bd h2
  have hep : p.ep < 0 ∨ 8 ≤ p.ep ∧ p.ep < 56 := by
    unfold mayEp inR at h7
    simp only [Bool.or_eq_true, beq_iff_eq] at h7
    rcases h7 with h7 | h7
    · omega
    · split at h7 <;> simp only [Bool.and_eq_true, decide_eq_true_eq] at h7 <;> omega
  refine ⟨⟨?_, by omega, hc.1, by omega, hh.1, hh.2, hf.1, hf.2, hep⟩, ho, ?_, ?_, h5, ?_, h7⟩
  · intro i
    rcases Nat.lt_or_ge i 64 with h | h
    · exact hbd i h
    · rw [ho i h]; omega
  · intro i hi h1
    have := (List.all_eq_true.1 h2) i (by simp; exact hi)
    simp [spotB, h1] at this
    omega
  · rintro s (rfl | rfl)
    · exact count_one h3 ho (by decide)
    · exact count_one h4 ho (by decide)
  · intro n hn hb
    have := (List.all_eq_true.1 h6) n (by simp; exact hn)
    simp [rightB, hb] at this
    exact this

/-- A move that may be made but for the king's safety. -/
structure Pseu (p : Pos) (m : Mv) : Prop where
  fr : m.fr < 64
  tg : m.tg < 64
  own : sideR (p.L m.fr) = p.turn
  go : okGo p m.fr m.tg = true
  into : if lastB p m.fr m.tg = true then 2 ≤ m.into ∧ m.into ≤ 5 else m.into = 0

theorem mem_crowns {fr tg n : Nat} {m : Mv} : m ∈ crowns fr tg n ↔ m.fr = fr ∧ m.tg = tg ∧ 2 ≤ m.into ∧ m.into < 2 + n := by
  unfold crowns
  rw [List.mem_map]
  constructor
  · rintro ⟨i, hi, rfl⟩
    simp at hi ⊢
    omega
  · rintro ⟨rfl, rfl, h1, h2⟩
    refine ⟨(m.into - 2).toNat, by simp; omega, ?_⟩
    obtain ⟨a, b, c⟩ := m
    simp at h1 h2 ⊢
    omega

theorem mem_movesR {p : Pos} {m : Mv} : m ∈ movesR p ↔ Pseu p m ∧ safeGo p m.fr m.tg = true := by
  unfold movesR movesUpto
  simp only [List.mem_flatMap, List.mem_range]
  constructor
  · rintro ⟨fr, hf, h⟩
    split at h
    case isFalse => simp at h
    rename_i hown
    unfold movesFrom at h
    simp only [List.mem_flatMap, List.mem_range] at h
    obtain ⟨tg, ht, h⟩ := h
    unfold movesAt at h
    split at h
    case isFalse => simp at h
    rename_i hgo
    rw [Bool.and_eq_true] at hgo
    unfold ownAt at hown
    have hown := eq_of_beq hown
    split at h
    · rename_i hl
      rw [mem_crowns] at h
      obtain ⟨rfl, rfl, h1, h2⟩ := h
      exact ⟨⟨hf, ht, hown, hgo.1, by rw [if_pos hl]; omega⟩, hgo.2⟩
    · rename_i hl
      simp only [List.mem_singleton] at h
      subst h
      exact ⟨⟨hf, ht, hown, hgo.1, by rw [if_neg hl]⟩, hgo.2⟩
  · rintro ⟨⟨hf, ht, hown, hgo, hi⟩, hs⟩
    refine ⟨m.fr, hf, ?_⟩
    rw [if_pos (by unfold ownAt; rw [hown]; exact beq_self_eq_true _)]
    unfold movesFrom
    simp only [List.mem_flatMap, List.mem_range]
    refine ⟨m.tg, ht, ?_⟩
    unfold movesAt
    rw [if_pos (by rw [hgo, hs]; rfl)]
    split at hi
    · rename_i hl
      rw [if_pos hl, mem_crowns]
      omega
    · rename_i hl
      rw [if_neg hl, List.mem_singleton]
      obtain ⟨a, b, c⟩ := m
      simp at hi
      rw [hi]

/-! ### The kinds of moves -/
theorem sideR_own {x t : Int} (ht : t = 0 ∨ t = 1) : sideR x = t ↔ 0 < x * (1 - 2 * t) := by
  unfold sideR
  rcases ht with rfl | rfl <;> split <;> (try split) <;> omega

theorem pawn_att {L : Nat → Int} {fr tg : Nat} (h : sizeI (L fr) = 1) : attacksB L fr tg = true ↔ sizeI (dxI fr tg) = 1 ∧ dyI fr tg = L fr := by
  rw [attacks_eq h]
  simp
  intro _ h2
  rcases pawn_one (fr := fr) h with hx | hx <;> rw [hx] at h2 <;> omega
theorem king_att {L : Nat → Int} {fr tg : Nat} (h : sizeI (L fr) = 6) : attacksB L fr tg = true ↔ ¬ (dxI fr tg = 0 ∧ dyI fr tg = 0) ∧ sizeI (dxI fr tg) ≤ 1 ∧ sizeI (dyI fr tg) ≤ 1 := by
  rw [attacks_eq h]
  simp
  intro h1 h2
  omega
theorem att_ne {L : Nat → Int} {fr tg : Nat} (h : attacksB L fr tg = true) : fr ≠ tg := by
  rintro rfl
  unfold attacksB at h
  simp [dxI, dyI] at h

/-- A castling that may be made. -/
structure Cast (p : Pos) (n fr tg : Nat) : Prop where
  n4 : n < 4
  side : ((n / 2 : Nat) : Int) = p.turn
  at_ : fr = homeN n
  go : (tg : Int) = kingN n + 2 * wayN n
  king : p.L fr = 6 * (1 - 2 * p.turn)
  rook : p.L (tourN n) = 4 * (1 - 2 * p.turn)
  free : ∀ k, k ∈ betweenN n → p.L k = 0
  bit : p.castle / 2 ^ n % 2 = 1
  safe : (safeN p n 0 && safeN p n 1 && safeN p n 2) = true

theorem hue_turn {n : Nat} {t : Int} (hn : n < 4) (h : ((n / 2 : Nat) : Int) = t) : hueN n = 1 - 2 * t := by
  unfold hueN
  have : n / 2 = 0 ∨ n / 2 = 1 := by omega
  rcases this with h1 | h1 <;> rw [h1] at h ⊢ <;> simp <;> omega

theorem castle_ne {p : Pos} {n : Nat} {x : Int} (h : castleToI p n = x) (hx : 0 ≤ x) :
    p.castle / 2 ^ n % 2 ≠ 0 ∧ ((n / 2 : Nat) : Int) = p.turn ∧ (∀ k, k ∈ betweenN n → p.L k = 0) ∧ (safeN p n 0 && safeN p n 1 && safeN p n 2) = true ∧ x = kingN n + 2 * wayN n := by
  unfold castleToI at h
  split at h
  · omega
  rename_i h1
  split at h
  · omega
  rename_i h2
  split at h
  · omega
  rename_i h3
  refine ⟨fun h => h1 (.inl h), ?_, ?_, by cases hs : (safeN p n 0 && safeN p n 1 && safeN p n 2); exact absurd hs h3; rfl, h.symm⟩
  · have := fun h => h1 (.inr h)
    simpa using this
  · intro k hk
    simp at h2
    exact h2 k hk

theorem castB_of {p : Pos} (hm : MayP p) {fr tg : Nat} (hown : sideR (p.L fr) = p.turn) (h : castB p fr tg 4 = true) : ∃ n, Cast p n fr tg := by
  unfold castB kingB at h
  simp only [Bool.and_eq_true, beq_iff_eq, List.any_eq_true, List.mem_range] at h
  obtain ⟨hk, n, hn, h⟩ := h
  obtain ⟨h1, h2, h3, h4, h5⟩ := castle_ne h (by omega)
  have hb : p.castle / 2 ^ n % 2 = 1 := by omega
  obtain ⟨r1, r2⟩ := hm.right n hn hb
  rw [hue_turn hn h2] at r1 r2
  have ho := (sideR_own hm.ok.turn).1 hown
  have hx : p.L fr = 6 * (1 - 2 * p.turn) := by
    rcases hm.ok.turn with ht | ht <;> rw [ht] at ho ⊢ <;> unfold sizeI at hk <;> split at hk <;> omega
  obtain ⟨k, _, hku⟩ := hm.king p.turn hm.ok.turn
  have e1 := (hku fr).1 hx
  have e2 := (hku (homeN n)).1 (by rw [r1]; omega)
  exact ⟨n, hn, h2, by omega, h5, hx, by rw [r2]; omega, h3, hb, h4⟩

inductive Kinds (p : Pos) (m : Mv) : Prop
  | piece (h : 2 ≤ sizeI (p.L m.fr)) (ha : attacksB p.L m.fr m.tg = true) (ht : p.L m.tg * (1 - 2 * p.turn) ≤ 0) (hi : m.into = 0) (hk : ¬ (sizeI (p.L m.fr) = 6 ∧ sizeI ((m.tg : Int) - m.fr) = 2))
  | takes (h : p.L m.fr = 1 - 2 * p.turn) (ha : sizeI (dxI m.fr m.tg) = 1) (hb : dyI m.fr m.tg = 1 - 2 * p.turn) (ht : p.L m.tg * (1 - 2 * p.turn) < 0) (he : (m.tg : Int) ≠ p.ep)
  | over (h : p.L m.fr = 1 - 2 * p.turn) (ha : sizeI (dxI m.fr m.tg) = 1) (hb : dyI m.fr m.tg = 1 - 2 * p.turn) (ht : p.L m.tg = 0) (he : (m.tg : Int) = p.ep) (hi : m.into = 0)
  | one (h : p.L m.fr = 1 - 2 * p.turn) (ha : (m.tg : Int) = m.fr + 8 * (1 - 2 * p.turn)) (ht : p.L m.tg = 0) (he : (m.tg : Int) ≠ p.ep)
  | two (h : p.L m.fr = 1 - 2 * p.turn) (ha : (m.tg : Int) = m.fr + 16 * (1 - 2 * p.turn)) (hf : (m.fr : Int) / 8 = if p.turn = 0 then 1 else 6) (ht : p.L m.tg = 0) (hb : p.L ((m.fr : Int) + 8 * (1 - 2 * p.turn)).toNat = 0) (hi : m.into = 0) (he : (m.tg : Int) ≠ p.ep)
  | cast (n : Nat) (h : Cast p n m.fr m.tg) (hi : m.into = 0)

/-- What holds of the place gone over. -/
theorem ep_facts {p : Pos} (hm : MayP p) (h : 0 ≤ p.ep) : (p.turn = 0 ∧ 40 ≤ p.ep ∧ p.ep ≤ 47 ∨ p.turn = 1 ∧ 16 ≤ p.ep ∧ p.ep ≤ 23) ∧ p.L p.ep.toNat = 0 ∧ p.L (p.ep - 8 * (1 - 2 * p.turn)).toNat = -(1 - 2 * p.turn) ∧ p.L (p.ep + 8 * (1 - 2 * p.turn)).toNat = 0 := by
  have h7 := hm.pass
  unfold mayEp inR at h7
  simp only [Bool.or_eq_true, beq_iff_eq] at h7
  rcases h7 with h7 | h7
  · omega
  · rcases hm.ok.turn with ht | ht
    · rw [ht] at h7 ⊢
      simp only [if_true, Bool.and_eq_true, decide_eq_true_eq, beq_iff_eq] at h7
      rw [show (p.ep - 8 * (1 - 2 * 0)).toNat = p.ep.toNat - 8 by omega, show (p.ep + 8 * (1 - 2 * 0)).toNat = p.ep.toNat + 8 by omega]
      exact ⟨by omega, h7.1.1.2, by rw [h7.1.2]; rfl, h7.2⟩
    · rw [ht] at h7 ⊢
      simp only [show ((1 : Int) = 0) = False by simp, if_false, Bool.and_eq_true, decide_eq_true_eq, beq_iff_eq] at h7
      rw [show (p.ep - 8 * (1 - 2 * 1)).toNat = p.ep.toNat + 8 by omega, show (p.ep + 8 * (1 - 2 * 1)).toNat = p.ep.toNat - 8 by omega]
      exact ⟨by omega, h7.1.1.2, by rw [h7.1.2]; rfl, h7.2⟩

theorem own_size {x t : Int} (ht : t = 0 ∨ t = 1) (ho : 0 < x * (1 - 2 * t)) : sizeI x = x * (1 - 2 * t) := by
  unfold sizeI; rcases ht with rfl | rfl <;> split <;> omega

theorem kinds_of {p : Pos} (hm : MayP p) {m : Mv} (h : Pseu p m) : Kinds p m := by
  have ht := hm.ok.turn
  have ho := (sideR_own ht).1 h.own
  have hsz := own_size ht ho
  have hgo := h.go
  unfold okGo at hgo
  rw [Bool.or_eq_true] at hgo
  rcases hgo with hgo | hgo
  · unfold mayGoB at hgo
    dsimp only at hgo
    split at hgo
    · cases hgo
    rename_i hn
    have hn2 : p.L m.tg * (1 - 2 * p.turn) ≤ 0 := by
      have := fun h => hn (.inr h)
      omega
    by_cases h1 : p.L m.fr * (1 - 2 * p.turn) = 1
    · rw [if_neg (by omega)] at hgo
      have hx : p.L m.fr = 1 - 2 * p.turn := by rcases ht with ht | ht <;> rw [ht] at h1 ⊢ <;> omega
      have hs1 : sizeI (p.L m.fr) = 1 := by omega
      have hpa := hm.pawn m.fr h.fr hs1
      have hinto : 8 ≤ m.tg ∧ m.tg < 56 → m.into = 0 := by
        intro h2
        have hi := h.into
        rw [if_neg] at hi
        · exact hi
        · unfold lastB; simp; omega
      split at hgo
      · rename_i ha
        rw [pawn_att hs1, hx] at ha
        by_cases he : (m.tg : Int) = p.ep
        · have hep := ep_facts hm (by omega)
          refine .over hx ha.1 ha.2 ?_ he (hinto (by omega))
          rw [show m.tg = p.ep.toNat by omega]; exact hep.2.1
        · simp [he] at hgo
          refine .takes hx ha.1 ha.2 ?_ he
          rcases ht with ht | ht <;> rw [ht] at hn2 ⊢ <;> omega
      · split at hgo
        · rename_i ha
          have hgo : p.L m.tg = 0 := eq_of_beq hgo
          refine .one hx ha hgo ?_
          intro he
          have hep := ep_facts hm (by omega)
          have e : (p.ep - 8 * (1 - 2 * p.turn)).toNat = m.fr := by omega
          rw [e, hx] at hep
          omega
        · simp only [Bool.and_eq_true, beq_iff_eq] at hgo
          obtain ⟨⟨⟨h2, h3⟩, h4⟩, h5⟩ := hgo
          have h2' : (m.fr : Int) / 8 = if p.turn = 0 then 1 else 6 := by
            rcases ht with ht | ht <;> rw [ht] at h2 ⊢ <;> simpa using h2
          refine .two hx h3 h2' h4 h5 (hinto ?_) ?_
          · rcases ht with ht | ht <;> rw [ht] at h2' h3 <;> simp at h2' <;> omega
          · intro he
            have hep := ep_facts hm (by omega)
            rcases ht with ht | ht <;> rw [ht] at h2' h3 hep <;> simp at h2' <;> omega
    · rw [if_pos h1] at hgo
      have h2 : 2 ≤ sizeI (p.L m.fr) := by omega
      have hi := h.into
      rw [if_neg (by unfold lastB; simp; omega)] at hi
      refine .piece h2 hgo hn2 hi ?_
      rintro ⟨h6, h7⟩
      rw [king_att h6] at hgo
      obtain ⟨h8, h9, h10⟩ := hgo
      unfold sizeI at h7 h9 h10
      unfold dxI at h8 h9
      unfold dyI at h8 h10
      repeat' split at h7
      all_goals repeat' split at h9
      all_goals repeat' split at h10
      all_goals omega
  · obtain ⟨n, hc⟩ := castB_of hm h.own hgo
    have hi := h.into
    rw [if_neg] at hi
    · exact .cast n hc hi
    · have := hc.king
      unfold lastB
      simp
      intro h1
      unfold sizeI at h1
      rcases ht with ht | ht <;> rw [ht] at this <;> split at h1 <;> omega

end Go.Proofs.YthffhhbbhjcdeaaGreatDoor
namespace Go.Proofs.YthffhhbbhjcdeaaGreatDoor

theorem kingIx_eq {L : Nat → Int} {s : Int} {k : Nat} (hk : k < 64) (h : ∀ i, L i = 6 * (1 - 2 * s) ↔ i = k) : kingIx L s = k := by
  obtain ⟨h1, h2, h3⟩ := kingIx_spec (L := L) (side := s) ⟨k, hk, (h k).2 rfl⟩
  exact (h _).1 h2
theorem calm_iff {L : Nat → Int} {s : Int} : inCheckB L s = false ↔ ∀ i, i < 64 → sideR (L i) = 1 - s → attacksB L i (kingIx L s) = false := by
  unfold inCheckB attackersL
  simp
theorem not_king {p : Pos} (hm : MayP p) {fr tg : Nat} (hf : fr < 64) (ho : sideR (p.L fr) = p.turn) (ha : attacksB p.L fr tg = true) : p.L tg ≠ -6 * (1 - 2 * p.turn) := by
  intro h
  have ht := hm.ok.turn
  obtain ⟨k, hk, hku⟩ := hm.king (1 - p.turn) (by omega)
  have e : tg = k := (hku tg).1 (by rw [h]; omega)
  have hc := calm_iff.1 hm.calm fr hf (by omega)
  rw [kingIx_eq hk hku, ← e, ha] at hc
  cases hc

/-- The board where one piece has moved. -/
def nb (L : Nat → Int) (fr tg : Nat) (v : Int) : Nat → Int := fun i => if i = tg then v else if i = fr then 0 else L i
def midN : Nat → Nat | 0 => 5 | 1 => 3 | 2 => 61 | _ => 59
def landN : Nat → Nat | 0 => 6 | 1 => 2 | 2 => 62 | _ => 58
inductive Shape (p : Pos) (m : Mv) : Prop
  | plain (v : Int) (hv : 0 < v * (1 - 2 * p.turn)) (h6 : v = 6 * (1 - 2 * p.turn) ↔ p.L m.fr = 6 * (1 - 2 * p.turn)) (h1 : sizeI v = 1 → 8 ≤ m.tg ∧ m.tg < 56) (ht : p.L m.tg * (1 - 2 * p.turn) ≤ 0)
      (hk : p.L m.tg ≠ -6 * (1 - 2 * p.turn)) (hne : m.fr ≠ m.tg) (hb : -6 ≤ v ∧ v ≤ 6) (hD : doneL p m = nb p.L m.fr m.tg v)
  | over (q : Nat) (hx : p.L m.fr = 1 - 2 * p.turn) (hq : (q : Int) = m.tg - 8 * (1 - 2 * p.turn)) (hL : p.L q = -(1 - 2 * p.turn)) (ht : p.L m.tg = 0) (hr : 16 ≤ m.tg ∧ m.tg < 48) (hne : m.fr ≠ m.tg) (hD : doneL p m = upd (nb p.L m.fr m.tg (1 - 2 * p.turn)) q 0)
  | cast (n : Nat) (h : Cast p n m.fr m.tg) (htg : m.tg = landN n) (hD : doneL p m = upd (upd (nb p.L m.fr m.tg (6 * (1 - 2 * p.turn))) (midN n) (4 * (1 - 2 * p.turn))) (tourN n) 0)

theorem sizeI_two {p : Pos} {m : Mv} (h : ¬ (sizeI (p.L m.fr) = 6 ∧ sizeI ((m.tg : Int) - m.fr) = 2)) (he : ¬ (sizeI (p.L m.fr) = 1 ∧ (m.tg : Int) = p.ep)) :
    doneL p m = nb p.L m.fr m.tg (if 0 < m.into then (1 - 2 * p.turn) * m.into else p.L m.fr) := by
  unfold doneL
  rw [if_neg h]
  unfold doneL3
  rw [if_neg he]
  unfold doneL2 doneL1 nb
  funext i
  split <;> simp [upd] <;> split <;> simp_all

theorem own_pos {x t : Int} (ht : t = 0 ∨ t = 1) (h : sideR x = t) : 0 < x * (1 - 2 * t) := (sideR_own ht).1 h
theorem size_own {t : Int} (ht : t = 0 ∨ t = 1) : sizeI (1 - 2 * t) = 1 := by rcases ht with rfl | rfl <;> decide
theorem mul_own {c x : Int} (hc : c = 1 ∨ c = -1) (hx : 0 < x) : 0 < c * x * c ∧ sizeI (c * x) = x := by
  rcases hc with rfl | rfl
  · constructor
    · omega
    · unfold sizeI; split <;> omega
  · constructor
    · omega
    · unfold sizeI; split <;> omega

theorem cast_land {p : Pos} {n fr tg : Nat} (h : Cast p n fr tg) : tg = landN n ∧ fr = homeN n ∧ midN n ∈ betweenN n ∧ landN n ∈ betweenN n := by
  have h4 := h.n4
  have hg := h.go
  have ha := h.at_
  match n, h4 with
  | 0, _ | 1, _ | 2, _ | 3, _ => refine ⟨?_, ha, by decide, by decide⟩; simp [kingN, wayN] at hg; simp only [landN]; omega

theorem shape_of {p : Pos} (hm : MayP p) {m : Mv} (h : Pseu p m) : Shape p m := by
  have ht := hm.ok.turn
  have hc : (1 - 2 * p.turn) = 1 ∨ (1 - 2 * p.turn) = -1 := by omega
  have ho := own_pos ht h.own
  have hsz := own_size ht ho
  have hbd := hm.ok.bd m.fr
  have hinto := h.into
  have hpl : ∀ (_ : p.L m.fr = 1 - 2 * p.turn) (_ : (m.tg : Int) ≠ p.ep) (_ : p.L m.tg * (1 - 2 * p.turn) ≤ 0) (_ : p.L m.tg ≠ -6 * (1 - 2 * p.turn)) (_ : m.fr ≠ m.tg), Shape p m := by
    intro hx he h3 h4 h5
    have hs1 : sizeI (p.L m.fr) = 1 := by rw [hx]; exact size_own ht
    have hD := sizeI_two (p := p) (m := m) (by rw [hs1]; omega) (by omega)
    by_cases hl : lastB p m.fr m.tg = true
    · rw [if_pos hl] at hinto
      rw [if_pos (by omega)] at hD
      obtain ⟨a1, a2⟩ := mul_own hc (show 0 < m.into by omega)
      have a3 := mul_bd hc (show 0 ≤ m.into by omega) hinto.2
      refine .plain _ a1 ?_ ?_ h3 h4 h5 (by omega) hD
      · constructor
        · intro h6; rw [h6] at a2; rcases hc with hc | hc <;> rw [hc] at a2 <;> simp [sizeI] at a2 <;> omega
        · intro h6; rw [hx] at h6; omega
      · intro h6; omega
    · rw [if_neg hl] at hinto
      rw [if_neg (by omega)] at hD
      refine .plain _ ho Iff.rfl ?_ h3 h4 h5 (by omega) hD
      intro _
      unfold lastB at hl
      rw [hs1] at hl
      simp at hl
      omega
  cases kinds_of hm h with
  | piece h1 ha h2 hi hk =>
    have hD := sizeI_two (p := p) (m := m) hk (by omega)
    rw [if_neg (by omega)] at hD
    exact .plain _ ho Iff.rfl (by omega) h2 (not_king hm h.fr h.own ha) (att_ne ha) (by omega) hD
  | takes hx ha hb h2 he =>
    have hs1 : sizeI (p.L m.fr) = 1 := by rw [hx]; exact size_own ht
    have hat := (pawn_att hs1).2 ⟨ha, by rw [hb, hx]⟩
    exact hpl hx he (by omega) (not_king hm h.fr h.own hat) (att_ne hat)
  | one hx ha h2 he => exact hpl hx he (by rw [h2]; omega) (by rw [h2]; omega) (by omega)
  | two hx ha hf h2 hb hi he => exact hpl hx he (by rw [h2]; omega) (by rw [h2]; omega) (by omega)
  | over hx ha hb h2 he hi =>
    have hep := ep_facts hm (by omega)
    have hs1 : sizeI (p.L m.fr) = 1 := by rw [hx]; exact size_own ht
    have hat := (pawn_att hs1).2 ⟨ha, by rw [hb, hx]⟩
    have hq0 : 0 ≤ (m.tg : Int) - 8 * (1 - 2 * p.turn) := by omega
    refine .over ((m.tg : Int) - 8 * (1 - 2 * p.turn)).toNat hx (by omega) (by rw [he]; exact hep.2.2.1) h2 (by omega) (att_ne hat) ?_
    unfold doneL
    rw [if_neg (by rw [hs1]; omega)]
    unfold doneL3
    rw [if_pos ⟨hs1, he⟩]
    unfold doneL2
    rw [if_neg (by omega)]
    congr 1
    unfold doneL1 nb
    funext i
    simp [upd, hx]
  | cast n hC hi =>
    obtain ⟨e1, e2, e3, e4⟩ := cast_land hC
    refine .cast n hC e1 ?_
    have hk := hC.king
    have hs6 : sizeI (p.L m.fr) = 6 := by rw [hk]; rcases hc with hc | hc <;> rw [hc] <;> decide
    have hr := hC.rook
    have h4 := hC.n4
    have hd : sizeI ((m.tg : Int) - m.fr) = 2 := by
      rw [e1, e2]
      match n, h4 with
      | 0, _ | 1, _ | 2, _ | 3, _ => decide
    have hmid : (m.fr + m.tg) / 2 = midN n := by
      rw [e1, e2]
      match n, h4 with
      | 0, _ | 1, _ | 2, _ | 3, _ => rfl
    have hcor : cornerN m = tourN n := by
      unfold cornerN
      rw [e1, e2]
      match n, h4 with
      | 0, _ | 1, _ | 2, _ | 3, _ => rfl
    have hL3 : doneL3 p m = nb p.L m.fr m.tg (6 * (1 - 2 * p.turn)) := by
      unfold doneL3
      rw [if_neg (by rw [hs6]; omega)]
      unfold doneL2
      rw [if_neg (by omega)]
      unfold doneL1 nb
      funext i
      simp [upd, hk]
    unfold doneL
    rw [if_pos ⟨hs6, hd⟩, hL3, hmid, hcor]
    have e : nb p.L m.fr m.tg (6 * (1 - 2 * p.turn)) (tourN n) = 4 * (1 - 2 * p.turn) := by
      rw [← hr]
      unfold nb
      rw [e1, e2]
      match n, h4 with
      | 0, _ | 1, _ | 2, _ | 3, _ => rfl
    rw [e]

/-! ### What is kept -/
theorem clr_all : ∀ c < 16, ∀ b0 b1 b2 b3 : Bool,
    let s := fun (b : Bool) (n : Nat) (c : Int) => if b = true ∧ c / 2 ^ n % 2 = 1 then c - 2 ^ n else c
    let r := s b3 3 (s b2 2 (s b1 1 (s b0 0 ((c : Nat) : Int))))
    0 ≤ r ∧ r < 16 ∧ ∀ n < 4, (r / 2 ^ n % 2 = 1 ↔ (c : Int) / 2 ^ n % 2 = 1 ∧ (if n = 0 then b0 else if n = 1 then b1 else if n = 2 then b2 else b3) = false) := by decide +kernel
theorem castleA_all {p : Pos} (m : Mv) (h0 : 0 ≤ p.castle) (h1 : p.castle < 16) : 0 ≤ castleA p m 4 ∧ castleA p m 4 < 16 ∧ ∀ n, n < 4 → (castleA p m 4 / 2 ^ n % 2 = 1 ↔ p.castle / 2 ^ n % 2 = 1 ∧ lostB p m n = false) := by
  obtain ⟨c, hc⟩ := Int.eq_ofNat_of_zero_le h0
  have h := clr_all c (by omega) (lostB p m 0) (lostB p m 1) (lostB p m 2) (lostB p m 3)
  simp only [castleA, castleS, hc]
  refine ⟨h.1, h.2.1, fun n hn => ?_⟩
  have h3 := h.2.2 n hn
  rw [h3]
  match n, hn with
  | 0, _ | 1, _ | 2, _ | 3, _ => rfl

theorem cast_apart {n : Nat} (h4 : n < 4) : homeN n ≠ landN n ∧ homeN n ≠ midN n ∧ homeN n ≠ tourN n ∧ landN n ≠ midN n ∧ landN n ≠ tourN n ∧ midN n ≠ tourN n ∧ tourN n < 64 ∧ midN n < 64 := by
  match n, h4 with
  | 0, _ | 1, _ | 2, _ | 3, _ => decide

theorem shape_one {p : Pos} (hm : MayP p) {m : Mv} (h : Pseu p m) (S : Shape p m) :
    (∀ i, doneL p m i = 6 * (1 - 2 * p.turn) ↔ (if p.L m.fr = 6 * (1 - 2 * p.turn) then i = m.tg else p.L i = 6 * (1 - 2 * p.turn))) ∧ (∀ i, doneL p m i = -6 * (1 - 2 * p.turn) ↔ p.L i = -6 * (1 - 2 * p.turn)) := by
  have ht := hm.ok.turn
  have hc : (1 - 2 * p.turn) = 1 ∨ (1 - 2 * p.turn) = -1 := by omega
  have ho := own_pos ht h.own
  obtain ⟨k, hk, hku⟩ := hm.king p.turn ht
  cases S with
  | plain v hv h6 h1 ht' hk' hne hb hD =>
    generalize 1 - 2 * p.turn = c at *
    rw [hD]
    constructor
    · intro i
      unfold nb
      split
      · rename_i hi
        rw [h6, hi]
        split
        · rename_i h7; simp [h7]
        · rename_i h7
          constructor
          · intro h8; exact absurd h8 h7
          · intro h8; rw [h8] at ht'; rcases hc with rfl | rfl <;> omega
      · rename_i hi
        split
        · rename_i hi2
          split
          · constructor
            · intro h8; omega
            · intro h8; exact absurd h8 hi
          · rename_i h7
            rw [hi2]
            constructor
            · intro h8; omega
            · intro h8; exact absurd h8 h7
        · rename_i hi2
          split
          · rename_i h7
            constructor
            · intro h8; exact absurd (((hku i).1 h8).trans ((hku m.fr).1 h7).symm) hi2
            · intro h8; exact absurd h8 hi
          · exact Iff.rfl
    · intro i
      unfold nb
      split
      · rename_i hi
        rw [hi]
        constructor
        · intro h8; rcases hc with rfl | rfl <;> omega
        · intro h8; exact absurd h8 hk'
      · split
        · rename_i hi2
          rw [hi2]
          constructor
          · intro h8; omega
          · intro h8; rcases hc with rfl | rfl <;> omega
        · exact Iff.rfl
  | over q hx hq hL ht' hr hne hD =>
    generalize 1 - 2 * p.turn = c at *
    have h66 : ¬ c = 6 * c := by rcases hc with rfl | rfl <;> omega
    rw [hD, hx]
    simp only [h66, if_false]
    have key : ∀ x, x ≠ 0 → x ≠ c → x ≠ -c → ∀ i, upd (nb p.L m.fr m.tg c) q 0 i = x ↔ p.L i = x := by
      intro x hx0 hxc hxn i
      unfold upd nb
      split
      · rename_i hi
        rw [hi, hL]; constructor
        · intro h; exact absurd h.symm hx0
        · intro h; exact absurd h.symm hxn
      · split
        · rename_i hi
          rw [hi, ht']; constructor
          · intro h; exact absurd h.symm hxc
          · intro h; exact absurd h.symm hx0
        · split
          · rename_i hi
            rw [hi, hx]; constructor
            · intro h; exact absurd h.symm hx0
            · intro h; exact absurd h.symm hxc
          · exact Iff.rfl
    exact ⟨key _ (by rcases hc with rfl | rfl <;> omega) (by rcases hc with rfl | rfl <;> omega) (by rcases hc with rfl | rfl <;> omega), key _ (by rcases hc with rfl | rfl <;> omega) (by rcases hc with rfl | rfl <;> omega) (by rcases hc with rfl | rfl <;> omega)⟩
  | cast n hC htg hD =>
    obtain ⟨e1, e2, e3, e4⟩ := cast_land hC
    have h4 := hC.n4
    have hfm := hC.free _ e3
    have hfl := hC.free _ e4
    have hrk := hC.rook
    have hkg := hC.king
    have hd := cast_apart h4
    rw [← e1] at hd hfl
    rw [← e2] at hd
    generalize midN n = q1 at *
    generalize tourN n = q2 at *
    generalize 1 - 2 * p.turn = c at *
    rw [hD, hkg]
    simp only [if_true]
    constructor
    · intro i
      unfold upd nb
      split
      · rename_i hi
        constructor
        · intro h8; rcases hc with rfl | rfl <;> omega
        · intro h8; omega
      · split
        · rename_i hi
          constructor
          · intro h8; rcases hc with rfl | rfl <;> omega
          · intro h8; omega
        · split
          · rename_i hi; simp [hi]
          · rename_i hi
            split
            · rename_i hi2
              constructor
              · intro h8; rcases hc with rfl | rfl <;> omega
              · intro h8; exact absurd h8 hi
            · rename_i hi2
              constructor
              · intro h8; exact absurd (((hku i).1 h8).trans ((hku m.fr).1 hkg).symm) hi2
              · intro h8; exact absurd h8 hi
    · intro i
      unfold upd nb
      split
      · rename_i hi
        rw [hi, hrk]
        constructor
        · intro h8; rcases hc with rfl | rfl <;> omega
        · intro h8; rcases hc with rfl | rfl <;> omega
      · split
        · rename_i hi
          rw [hi, hfm]
          constructor
          · intro h8; rcases hc with rfl | rfl <;> omega
          · intro h8; rcases hc with rfl | rfl <;> omega
        · split
          · rename_i hi
            rw [hi, hfl]
            constructor
            · intro h8; rcases hc with rfl | rfl <;> omega
            · intro h8; rcases hc with rfl | rfl <;> omega
          · split
            · rename_i hi
              rw [hi, hkg]
              constructor
              · intro h8; rcases hc with rfl | rfl <;> omega
              · intro h8; rcases hc with rfl | rfl <;> omega
            · exact Iff.rfl

/-- Two boards that differ only in what own pieces (no kings) stand somewhere. -/
theorem inCheck_same {L L' : Nat → Int} {t : Int} (ht : t = 0 ∨ t = 1) (h : ∀ i, L i = L' i ∨ (0 < L i * (1 - 2 * t) ∧ 0 < L' i * (1 - 2 * t) ∧ L i ≠ 6 * (1 - 2 * t) ∧ L' i ≠ 6 * (1 - 2 * t))) : inCheckB L t = inCheckB L' t := by
  have hk : kingIx L t = kingIx L' t := by
    unfold kingIx
    congr 2
    funext i
    rcases h i with h | h
    · rw [h]
    · rw [Bool.eq_iff_iff]; simp only [beq_iff_eq]; exact ⟨fun e => absurd e h.2.2.1, fun e => absurd e h.2.2.2⟩
  have hz : ∀ i, (L i == 0) = (L' i == 0) := by
    intro i
    rcases h i with h | h
    · rw [h]
    · have h1 : L i ≠ 0 := by rcases ht with rfl | rfl <;> omega
      have h2 : L' i ≠ 0 := by rcases ht with rfl | rfl <;> omega
      rw [beq_eq_false_iff_ne.2 h1, beq_eq_false_iff_ne.2 h2]
  have hf : ∀ i k, freeWay L i k = freeWay L' i k := by
    intro i k
    unfold freeWay
    congr 1
    funext j
    rw [hz]
  have ha : ∀ i k, L i = L' i → attacksB L i k = attacksB L' i k := by
    intro i k e
    rw [attacks_eq (L := L) (k := sizeI (L i)) rfl, attacks_eq (L := L') (k := sizeI (L i)) (by rw [e]), hf, e]
  unfold inCheckB attackersL
  rw [hk]
  congr 3
  congr 1
  apply List.filter_congr
  intro i _
  rcases h i with h | h
  · rw [ha i _ h, h]
  · have h1 : (sideR (L i) == 1 - t) = false := by
      rw [beq_eq_false_iff_ne]; rw [(sideR_own ht).2 h.1]; omega
    have h2 : (sideR (L' i) == 1 - t) = false := by
      rw [beq_eq_false_iff_ne]; rw [(sideR_own ht).2 h.2.1]; omega
    rw [h1, h2]; rfl

end Go.Proofs.YthffhhbbhjcdeaaGreatDoor
namespace Go.Proofs.YthffhhbbhjcdeaaGreatDoor

theorem into_bd {p : Pos} {m : Mv} (h : Pseu p m) : 0 ≤ m.into ∧ m.into ≤ 5 := by
  have := h.into
  split at this <;> omega

/-- What a pawn becomes does not matter to the own king. -/
theorem check_into {p : Pos} (hm : MayP p) {m : Mv} (h : Pseu p m) : inCheckB (doneL p m) p.turn = inCheckB (doneL p ⟨m.fr, m.tg, 0⟩) p.turn := by
  have ht := hm.ok.turn
  have hc : (1 - 2 * p.turn) = 1 ∨ (1 - 2 * p.turn) = -1 := by omega
  by_cases hi : m.into = 0
  · obtain ⟨a, b, c⟩ := m
    simp only at hi
    subst hi
    rfl
  have hin := into_bd h
  have hinto := h.into
  have hl : lastB p m.fr m.tg = true := by
    cases hl : lastB p m.fr m.tg
    · rw [hl] at hinto; simp at hinto; exact absurd hinto hi
    · rfl
  rw [if_pos hl] at hinto
  have hs1 : sizeI (p.L m.fr) = 1 := by
    unfold lastB at hl; rw [Bool.and_eq_true] at hl; exact eq_of_beq hl.1
  have hlast : m.tg < 8 ∨ 55 < m.tg := by
    unfold lastB at hl; rw [Bool.and_eq_true, Bool.or_eq_true, decide_eq_true_eq, decide_eq_true_eq] at hl; exact hl.2
  have hne : ¬ (sizeI (p.L m.fr) = 1 ∧ (m.tg : Int) = p.ep) := by
    rintro ⟨_, he⟩
    have := ep_facts hm (by omega)
    omega
  have ho := own_pos ht h.own
  have hsz := own_size ht ho
  rw [sizeI_two (p := p) (m := m) (by omega) hne, sizeI_two (p := p) (m := ⟨m.fr, m.tg, 0⟩) (by simp only; omega) hne]
  rw [if_pos (by omega), if_neg (by simp)]
  obtain ⟨a1, a2⟩ := mul_own hc (show 0 < m.into by omega)
  have a3 := mul_bd hc (show 0 ≤ m.into by omega) hinto.2
  refine inCheck_same ht fun i => ?_
  unfold nb
  split
  · have six : sizeI (6 * (1 - 2 * p.turn)) = 6 := by rcases hc with hc | hc <;> rw [hc] <;> decide
    exact .inr ⟨a1, ho, fun e => by rw [e, six] at a2; omega, fun e => by rw [e, six] at hs1; omega⟩
  · exact .inl rfl

theorem hue_own {n : Nat} {t : Int} (ht : t = 0 ∨ t = 1) (h : ((n / 2 : Nat) : Int) ≠ t) (hn : n < 4) : hueN n = -(1 - 2 * t) := by
  unfold hueN
  have : n / 2 = 0 ∨ n / 2 = 1 := by omega
  rcases this with h1 | h1 <;> rw [h1] at h ⊢ <;> rcases ht with rfl | rfl <;> simp at h ⊢
theorem rook_tour {n : Nat} (hn : n < 4) : rookN n = tourN n := by
  match n, hn with
  | 0, _ | 1, _ | 2, _ | 3, _ => rfl
theorem cast_far {n k : Nat} (hn : n < 4) (hk : k < 4) (h : n / 2 ≠ k / 2) : homeN k ≠ homeN n ∧ homeN k ≠ landN n ∧ homeN k ≠ midN n ∧ homeN k ≠ tourN n ∧ tourN k ≠ homeN n ∧ tourN k ≠ landN n ∧ tourN k ≠ midN n ∧ tourN k ≠ tourN n := by
  have key : ∀ n < 4, ∀ k < 4, n / 2 ≠ k / 2 → homeN k ≠ homeN n ∧ homeN k ≠ landN n ∧ homeN k ≠ midN n ∧ homeN k ≠ tourN n := by decide
  have key2 : ∀ n < 4, ∀ k < 4, n / 2 ≠ k / 2 → tourN k ≠ homeN n ∧ tourN k ≠ landN n ∧ tourN k ≠ midN n ∧ tourN k ≠ tourN n := by decide
  obtain ⟨a, b, c, d⟩ := key n hn k hk h
  exact ⟨a, b, c, d, key2 n hn k hk h⟩

/-- A right that is left: king and rook stand as they stood. -/
theorem right_kept {p : Pos} (hm : MayP p) {m : Mv} (h : Pseu p m) {n : Nat} (hn : n < 4) (hb : p.castle / 2 ^ n % 2 = 1) (hl : lostB p m n = false) :
    doneL p m (homeN n) = p.L (homeN n) ∧ doneL p m (tourN n) = p.L (tourN n) := by
  have ht := hm.ok.turn
  have hc : (1 - 2 * p.turn) = 1 ∨ (1 - 2 * p.turn) = -1 := by omega
  have ho := own_pos ht h.own
  obtain ⟨r1, r2⟩ := hm.right n hn hb
  unfold lostB at hl
  rw [rook_tour hn] at hl
  simp only [Bool.or_eq_false_iff, beq_eq_false_iff_ne, Bool.and_eq_false_iff] at hl
  obtain ⟨⟨l1, l2⟩, l3⟩ := hl
  have hf : homeN n ≠ m.fr := by
    intro e
    rw [e] at r1
    by_cases hs : ((n / 2 : Nat) : Int) = p.turn
    · rcases l3 with l3 | l3
      · apply l3
        rw [r1, hue_turn hn hs]
        rcases hc with hc | hc <;> rw [hc] <;> decide
      · exact l3 hs
    · rw [hue_own ht hs hn] at r1
      rw [r1] at ho
      rcases hc with hc | hc <;> rw [hc] at ho <;> omega
  cases shape_of hm h with
  | plain v hv h6 h1 ht' hk' hne hb' hD =>
    have htg : homeN n ≠ m.tg := by
      intro e
      rw [e] at r1
      by_cases hs : ((n / 2 : Nat) : Int) = p.turn
      · rw [r1, hue_turn hn hs] at ht'
        rcases hc with hc | hc <;> rw [hc] at ht' <;> omega
      · rw [hue_own ht hs hn] at r1
        exact hk' (by rw [r1]; omega)
    rw [hD]
    unfold nb
    rw [if_neg htg, if_neg hf, if_neg (Ne.symm l2), if_neg (Ne.symm l1)]
    exact ⟨rfl, rfl⟩
  | over q hx hq hL ht' hr hne hD =>
    have hh : hueN n = 1 ∨ hueN n = -1 := by unfold hueN; split <;> simp
    have e1 : homeN n ≠ m.tg := by intro e; rw [e, ht'] at r1; omega
    have e2 : homeN n ≠ q := by intro e; rw [e, hL] at r1; omega
    have e3 : tourN n ≠ q := by intro e; rw [e, hL] at r2; omega
    rw [hD]
    unfold upd nb
    rw [if_neg e2, if_neg e1, if_neg hf, if_neg e3, if_neg (Ne.symm l2), if_neg (Ne.symm l1)]
    exact ⟨rfl, rfl⟩
  | cast k hC htg hD =>
    obtain ⟨e1, e2, e3, e4⟩ := cast_land hC
    have hs : ¬ k / 2 = n / 2 := by
      intro e
      have h6 := hC.king
      have hsd := hC.side
      rcases l3 with l3 | l3
      · apply l3; rw [h6]; rcases hc with hc | hc <;> rw [hc] <;> decide
      · apply l3; rw [← e]; exact hsd
    have hf := cast_far hC.n4 hn hs
    rw [hD]
    unfold upd nb
    rw [e1, e2, if_neg hf.2.2.2.1, if_neg hf.2.2.1, if_neg hf.2.1, if_neg hf.1, if_neg hf.2.2.2.2.2.2.2, if_neg hf.2.2.2.2.2.2.1, if_neg hf.2.2.2.2.2.1, if_neg hf.2.2.2.2.1]
    exact ⟨rfl, rfl⟩

/-- What is gone over behind a move: nothing, or a pawn's two steps. -/
theorem ep_kinds {p : Pos} (hm : MayP p) {m : Mv} (h : Pseu p m) : epR p m = -1 ∨
    (p.L m.fr = 1 - 2 * p.turn ∧ (m.tg : Int) = m.fr + 16 * (1 - 2 * p.turn) ∧ ((m.fr : Int) / 8 = if p.turn = 0 then 1 else 6) ∧ p.L m.tg = 0 ∧ p.L ((m.fr : Int) + 8 * (1 - 2 * p.turn)).toNat = 0 ∧ m.into = 0 ∧ (m.tg : Int) ≠ p.ep ∧ epR p m = m.fr + 8 * (1 - 2 * p.turn)) := by
  have ht := hm.ok.turn
  unfold epR
  by_cases hs : sizeI (p.L m.fr) = 1 ∧ sizeI ((m.tg : Int) - m.fr) = 16
  · rw [if_pos hs]
    obtain ⟨hs1, h16⟩ := hs
    have hd : (m.tg : Int) - m.fr = 16 ∨ (m.tg : Int) - m.fr = -16 := by unfold sizeI at h16; split at h16 <;> omega
    have hno : sizeI (dxI m.fr m.tg) = 1 → False := by
      intro h1
      unfold sizeI dxI at h1
      split at h1 <;> omega
    cases kinds_of hm h with
    | piece h1 ha h2 hi hk => omega
    | takes hx ha hb h2 he => exact absurd ha (fun h => hno h)
    | over hx ha hb h2 he hi => exact absurd ha (fun h => hno h)
    | one hx ha h2 he => rcases ht with ht | ht <;> rw [ht] at ha <;> omega
    | two hx ha hf h2 hb hi he =>
      refine .inr ⟨hx, ha, hf, h2, hb, hi, he, ?_⟩
      rcases ht with ht | ht <;> rw [ht] at ha ⊢ <;> omega
    | cast n hC hi =>
      have := hC.king
      rcases ht with ht | ht <;> rw [ht] at this <;> rw [this] at hs1 <;> simp [sizeI] at hs1
  · rw [if_neg hs]
    exact .inl rfl

theorem mayP_next {p : Pos} (hm : MayP p) {m : Mv} (h : Pseu p m) (hsafe : safeGo p m.fr m.tg = true) : MayP (doneR p m) := by
  have ht := hm.ok.turn
  have hc : (1 - 2 * p.turn) = 1 ∨ (1 - 2 * p.turn) = -1 := by omega
  have hin := into_bd h
  have hS := shape_of hm h
  have ho := own_pos ht h.own
  obtain ⟨c0, c1, c2⟩ := castleA_all m hm.ok.c0 hm.ok.c1
  have hf0 := hm.ok.f0
  have hf1 := hm.ok.f1
  have hh0 := hm.ok.h0
  have hh1 := hm.ok.h1
  have hep := ep_kinds hm h
  have hpass : mayEp (doneR p m) = true := by
    rcases hep with hep | ⟨hx, ha, hf, h2, hb, hi, he, hep⟩
    · unfold mayEp doneR
      rw [hep]
      rfl
    · have hs1 : sizeI (p.L m.fr) = 1 := by rw [hx]; exact size_own ht
      have hD := sizeI_two (p := p) (m := m) (by rw [hs1]; omega) (by omega)
      rw [if_neg (by omega)] at hD
      have hcell : ∀ i, doneL p m i = nb p.L m.fr m.tg (p.L m.fr) i := fun i => by rw [hD]
      unfold mayEp inR doneR
      simp only [hep]
      rcases ht with ht | ht
      · simp only [ht] at *
        simp at hf
        have e1 : ((m.fr : Int) + 8 * (1 - 2 * 0)).toNat = m.fr + 8 := by omega
        have e2 : m.tg = m.fr + 16 := by omega
        rw [e1] at hb
        simp only [e1, hcell]
        rw [e2] at h2 ⊢
        simp [nb, hx, hb]
        omega
      · simp only [ht] at *
        simp at hf
        have e1 : ((m.fr : Int) + 8 * (1 - 2 * 1)).toNat = m.fr - 8 := by omega
        have e2 : m.tg = m.fr - 16 := by omega
        rw [e1] at hb
        simp only [e1, hcell]
        rw [e2] at h2 ⊢
        have e3 : m.fr - 8 - 8 = m.fr - 16 := by omega
        have e4 : m.fr - 8 + 8 = m.fr := by omega
        have e5 : m.fr - 8 ≠ m.fr - 16 := by omega
        have e6 : m.fr - 8 ≠ m.fr := by omega
        have e7 : m.fr ≠ m.fr - 16 := by omega
        simp [nb, hx, hb, e3, e4, e5, e6, e7]
        omega
  refine ⟨⟨doneL_bd hm.ok.bd ht hin.1 hin.2, ?_, c0, c1, ?_, ?_, ?_, ?_, ?_⟩, ?_, ?_, ?_, ?_, ?_, hpass⟩
  · show (1 - p.turn) = 0 ∨ (1 - p.turn) = 1; omega
  · show 0 ≤ halfR p m; unfold halfR; split <;> (try split) <;> omega
  · show halfR p m ≤ 999; unfold halfR; split <;> (try split) <;> omega
  · show 1 ≤ fullR p m; unfold fullR; split <;> omega
  · show fullR p m ≤ 999; unfold fullR; split <;> omega
  · show epR p m < 0 ∨ 8 ≤ epR p m ∧ epR p m < 56
    rcases hep with hep | ⟨hx, ha, hf, h2, hb, hi, he, hep⟩
    · omega
    · rcases ht with ht | ht <;> rw [ht] at hf hep <;> simp at hf <;> omega
  · intro i hi
    show doneL p m i = 0
    have hmf := h.fr
    have hmt := h.tg
    have hz := hm.out i hi
    cases hS with
    | plain v hv h6 h1 ht' hk' hne hb hD => rw [hD]; unfold nb; rw [if_neg (by omega), if_neg (by omega), hz]
    | over q hx hq hL ht' hr hne hD => rw [hD]; unfold upd nb; rw [if_neg (by omega), if_neg (by omega), if_neg (by omega), hz]
    | cast n hC htg hD =>
      have hap := cast_apart hC.n4
      rw [hD]; unfold upd nb; rw [if_neg (by omega), if_neg (by omega), if_neg (by omega), if_neg (by omega), hz]
  · intro i hi h1
    have h1 : sizeI (doneL p m i) = 1 := h1
    cases hS with
    | plain v hv h6 h1' ht' hk' hne hb hD =>
      rw [hD] at h1
      unfold nb at h1
      split at h1
      · rename_i e; rw [e]; exact h1' h1
      · split at h1
        · simp [sizeI] at h1
        · exact hm.pawn i hi h1
    | over q hx hq hL ht' hr hne hD =>
      rw [hD] at h1
      unfold upd nb at h1
      split at h1
      · simp [sizeI] at h1
      · split at h1
        · rename_i e; omega
        · split at h1
          · simp [sizeI] at h1
          · exact hm.pawn i hi h1
    | cast n hC htg hD =>
      rw [hD] at h1
      unfold upd nb at h1
      split at h1
      · simp [sizeI] at h1
      · split at h1
        · rcases hc with hc | hc <;> rw [hc] at h1 <;> simp [sizeI] at h1
        · split at h1
          · rcases hc with hc | hc <;> rw [hc] at h1 <;> simp [sizeI] at h1
          · split at h1
            · simp [sizeI] at h1
            · exact hm.pawn i hi h1
  · intro s hs
    obtain ⟨k1, k2⟩ := shape_one hm h hS
    by_cases hst : s = p.turn
    · subst hst
      obtain ⟨k, hk, hku⟩ := hm.king _ ht
      by_cases h6 : p.L m.fr = 6 * (1 - 2 * p.turn)
      · exact ⟨m.tg, h.tg, fun i => by show doneL p m i = _ ↔ _; rw [k1 i, if_pos h6]⟩
      · exact ⟨k, hk, fun i => by show doneL p m i = _ ↔ _; rw [k1 i, if_neg h6]; exact hku i⟩
    · obtain ⟨k, hk, hku⟩ := hm.king s hs
      refine ⟨k, hk, fun i => ?_⟩
      show doneL p m i = _ ↔ _
      have e : 6 * (1 - 2 * s) = -6 * (1 - 2 * p.turn) := by omega
      rw [e] at hku ⊢
      rw [k2 i]; exact hku i
  · show inCheckB (doneL p m) (1 - (1 - p.turn)) = false
    rw [show 1 - (1 - p.turn) = p.turn by omega, check_into hm h]
    unfold safeGo at hsafe
    simpa using hsafe
  · intro n hn hb
    obtain ⟨b1, b2⟩ := (c2 n hn).1 hb
    obtain ⟨r1, r2⟩ := hm.right n hn b1
    obtain ⟨d1, d2⟩ := right_kept hm h hn b1 b2
    show doneL p m (homeN n) = _ ∧ doneL p m (tourN n) = _
    rw [d1, d2]
    exact ⟨r1, r2⟩

end Go.Proofs.YthffhhbbhjcdeaaGreatDoor
