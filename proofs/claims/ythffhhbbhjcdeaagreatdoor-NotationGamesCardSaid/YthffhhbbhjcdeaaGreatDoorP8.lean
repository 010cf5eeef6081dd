/- PLAIN LEAN: the moves that the program finds, ahead of the sort, are those that may be made but for the king's safety, each once. -/
import Derived.Test.YthffhhbbhjcdeaaGreatDoorP7
set_option linter.unusedVariables false
set_option linter.unusedSimpArgs false
namespace Go.Proofs.YthffhhbbhjcdeaaGreatDoor

def takesL (p : Pos) (fr : Nat) : List Nat := (reachL p.L fr).filter fun tg => (sideR (p.L tg) == 1 - p.turn) || ((tg : Int) == p.ep)
def fwdN (p : Pos) (fr : Nat) (k : Int) : Nat := ((fr : Int) + k * (8 * (1 - 2 * p.turn))).toNat
def aheadL (p : Pos) (fr : Nat) : List Nat :=
  if p.L (fwdN p fr 1) ≠ 0 then [] else fwdN p fr 1 :: (if (fr : Int) / 8 = 1 + 5 * p.turn ∧ p.L (fwdN p fr 2) = 0 then [fwdN p fr 2] else [])
def crownL (fr tg : Nat) : List Mv := if 8 ≤ tg ∧ tg < 56 then [⟨fr, tg, 0⟩] else crowns fr tg 4
def pawnG (p : Pos) (fr : Nat) : List Mv := (takesL p fr ++ aheadL p fr).flatMap (crownL fr)
def pieceG (p : Pos) (fr : Nat) : List Mv := ((reachL p.L fr).filter fun tg => sideR (p.L tg) != p.turn).map fun tg => ⟨fr, tg, 0⟩
def genAt (p : Pos) (fr : Nat) : List Mv := if sideR (p.L fr) = p.turn then (if sizeI (p.L fr) = 1 then pawnG p fr else pieceG p fr) else []
def genUpto (p : Pos) (n : Nat) : List Mv := (List.range n).flatMap (genAt p)
def castAt (p : Pos) (n : Nat) : List Mv := if castleToI p n < 0 then [] else [⟨homeN n, (castleToI p n).toNat, 0⟩]
def castG (p : Pos) : Nat → List Mv
  | 0 => []
  | 1 => castAt p (2 * p.turn.toNat)
  | _ => castAt p (2 * p.turn.toNat) ++ castAt p (2 * p.turn.toNat + 1)
def genL (p : Pos) : List Mv := genUpto p 64 ++ castG p 2

theorem mem_crownL {fr tg : Nat} {m : Mv} : m ∈ crownL fr tg ↔ m.fr = fr ∧ m.tg = tg ∧ (if 8 ≤ tg ∧ tg < 56 then m.into = 0 else 2 ≤ m.into ∧ m.into ≤ 5) := by
  unfold crownL
  split
  · rw [List.mem_singleton]
    obtain ⟨a, b, c⟩ := m
    simp
  · rw [mem_crowns]
    omega
theorem side_not {x t : Int} (ht : t = 0 ∨ t = 1) : sideR x = 1 - t ↔ x * (1 - 2 * t) < 0 := by
  unfold sideR
  rcases ht with rfl | rfl <;> split <;> (try split) <;> omega
theorem side_free {x t : Int} (ht : t = 0 ∨ t = 1) : (sideR x != t) = true ↔ x * (1 - 2 * t) ≤ 0 := by
  rw [bne_iff_ne, Ne, sideR_own ht]
  omega

/-- Where a pawn may go. -/
theorem pawn_gen {p : Pos} (hm : MayP p) {fr tg : Nat} (hf : fr < 64) (hx : p.L fr = 1 - 2 * p.turn) : tg ∈ takesL p fr ++ aheadL p fr ↔ tg < 64 ∧ mayGoB p fr tg = true := by
  have ht := hm.ok.turn
  have hs1 : sizeI (p.L fr) = 1 := by rw [hx]; exact size_own ht
  have hpa := hm.pawn fr hf hs1
  have hbd := hm.ok.bd fr
  have hown : ¬ p.L fr * (1 - 2 * p.turn) ≤ 0 := by rw [hx]; rcases ht with h | h <;> rw [h] <;> decide
  have hone : p.L fr * (1 - 2 * p.turn) = 1 := by rw [hx]; rcases ht with h | h <;> rw [h] <;> decide
  have hmay : mayGoB p fr tg = true ↔ p.L tg * (1 - 2 * p.turn) ≤ 0 ∧ (if attacksB p.L fr tg = true then p.L tg ≠ 0 ∨ (tg : Int) = p.ep
      else if (tg : Int) = fr + 8 * (1 - 2 * p.turn) then p.L tg = 0
      else (fr : Int) / 8 = (if 1 - 2 * p.turn < 0 then 6 else 1) ∧ (tg : Int) = fr + 16 * (1 - 2 * p.turn) ∧ p.L tg = 0 ∧ p.L ((fr : Int) + 8 * (1 - 2 * p.turn)).toNat = 0) := by
    unfold mayGoB
    dsimp only
    by_cases h1 : 0 < p.L tg * (1 - 2 * p.turn)
    · rw [if_pos (.inr h1)]
      constructor
      · intro h; cases h
      · intro h; omega
    · rw [if_neg (by omega), if_neg (by omega)]
      constructor
      · intro h
        refine ⟨by omega, ?_⟩
        split at h
        · rename_i ha; rw [if_pos ha]; simpa using h
        · rename_i ha; rw [if_neg ha]
          split at h
          · rename_i hb; rw [if_pos hb]; simpa using h
          · rename_i hb; rw [if_neg hb]; simp only [Bool.and_eq_true, beq_iff_eq] at h; exact ⟨h.1.1.1, h.1.1.2, h.1.2, h.2⟩
      · rintro ⟨_, h⟩
        split at h
        · rename_i ha; rw [if_pos ha]; simpa using h
        · rename_i ha; rw [if_neg ha]
          split at h
          · rename_i hb; rw [if_pos hb]; simpa using h
          · rename_i hb; rw [if_neg hb]; simp only [Bool.and_eq_true, beq_iff_eq]; exact ⟨⟨⟨h.1, h.2.1⟩, h.2.2.1⟩, h.2.2.2⟩
  rw [hmay, List.mem_append]
  have htk : tg ∈ takesL p fr ↔ tg < 64 ∧ attacksB p.L fr tg = true ∧ (p.L tg * (1 - 2 * p.turn) < 0 ∨ (tg : Int) = p.ep) := by
    unfold takesL
    rw [List.mem_filter]
    constructor
    · rintro ⟨h1, h2⟩
      have hlt := reach_lt hf h1
      refine ⟨hlt, (mem_reach hf hlt hbd.1 hbd.2).1 h1, ?_⟩
      simp only [Bool.or_eq_true, beq_iff_eq] at h2
      rwa [side_not ht] at h2
    · rintro ⟨h1, h2, h3⟩
      refine ⟨(mem_reach hf h1 hbd.1 hbd.2).2 h2, ?_⟩
      simp only [Bool.or_eq_true, beq_iff_eq]
      rwa [side_not ht]
  have h1n : (fwdN p fr 1 : Int) = fr + 8 * (1 - 2 * p.turn) := by unfold fwdN; rcases ht with h | h <;> rw [h] <;> omega
  have h1e : fwdN p fr 1 = ((fr : Int) + 8 * (1 - 2 * p.turn)).toNat := by omega
  have hah : tg ∈ aheadL p fr ↔ p.L (fwdN p fr 1) = 0 ∧ (tg = fwdN p fr 1 ∨ ((fr : Int) / 8 = 1 + 5 * p.turn ∧ p.L (fwdN p fr 2) = 0 ∧ tg = fwdN p fr 2)) := by
    unfold aheadL
    split
    · rename_i h; simp [h]
    · rename_i h
      have h : p.L (fwdN p fr 1) = 0 := by simpa using h
      split
      · rename_i h2; simp [h, h2]
      · rename_i h2
        simp only [List.mem_singleton, h, true_and]
        constructor
        · exact .inl
        · rintro (h3 | ⟨h3, h4, h5⟩)
          · exact h3
          · exact absurd ⟨h3, h4⟩ h2
  have hna : ∀ {x : Nat}, dxI fr x = 0 → attacksB p.L fr x = false := by
    intro x h
    cases ha : attacksB p.L fr x
    · rfl
    · rw [pawn_att hs1] at ha
      rw [h] at ha
      exact absurd ha.1 (by decide)
  rw [htk, hah]
  constructor
  · rintro (⟨h1, h2, h3⟩ | ⟨h1, h2⟩)
    · refine ⟨h1, ?_, ?_⟩
      · rcases h3 with h3 | h3
        · omega
        · have := (ep_facts hm (by omega)).2.1
          rw [show p.ep.toNat = tg by omega] at this
          rw [this]; omega
      · rw [if_pos h2]
        rcases h3 with h3 | h3
        · exact .inl (by intro h; rw [h] at h3; omega)
        · exact .inr h3
    · rcases h2 with rfl | ⟨h3, h4, rfl⟩
      · refine ⟨by rcases ht with h | h <;> rw [h] at h1n <;> omega, by rw [h1]; omega, ?_⟩
        rw [hna (by unfold dxI; rcases ht with h | h <;> rw [h] at h1n <;> omega), if_neg (by decide), if_pos h1n]
        exact h1
      · have h2n : (fwdN p fr 2 : Int) = fr + 16 * (1 - 2 * p.turn) := by unfold fwdN; rcases ht with h | h <;> rw [h] at h3 ⊢ <;> omega
        refine ⟨by rcases ht with h | h <;> rw [h] at h2n h3 <;> omega, by rw [h4]; omega, ?_⟩
        rw [hna (by unfold dxI; rcases ht with h | h <;> rw [h] at h2n h3 <;> omega), if_neg (by decide), if_neg (by rcases ht with h | h <;> rw [h] at h2n ⊢ <;> omega)]
        refine ⟨by rcases ht with h | h <;> rw [h] at h3 ⊢ <;> simp <;> omega, h2n, h4, by rw [← h1e]; exact h1⟩
  · rintro ⟨h1, h2, h3⟩
    split at h3
    · rename_i ha
      refine .inl ⟨h1, ha, ?_⟩
      rcases h3 with h3 | h3
      · refine .inl ?_
        rcases ht with h | h <;> rw [h] at h2 ⊢ <;> omega
      · exact .inr h3
    · split at h3
      · rename_i hb
        have e : tg = fwdN p fr 1 := by omega
        subst e
        exact .inr ⟨h3, .inl rfl⟩
      · obtain ⟨h4, h5, h6, h7⟩ := h3
        have h2n : tg = fwdN p fr 2 := by unfold fwdN; rcases ht with h | h <;> rw [h] at h5 ⊢ <;> omega
        subst h2n
        refine .inr ⟨by rw [h1e]; exact h7, .inr ⟨?_, h6, rfl⟩⟩
        rcases ht with h | h <;> rw [h] at h4 ⊢ <;> simp at h4 <;> omega

theorem piece_gen {p : Pos} (hm : MayP p) {fr tg : Nat} (hf : fr < 64) (hown : sideR (p.L fr) = p.turn) (hs : sizeI (p.L fr) ≠ 1) :
    tg ∈ ((reachL p.L fr).filter fun tg => sideR (p.L tg) != p.turn) ↔ tg < 64 ∧ mayGoB p fr tg = true := by
  have ht := hm.ok.turn
  have hbd := hm.ok.bd fr
  have ho := (sideR_own ht).1 hown
  have hsz := own_size ht ho
  rw [List.mem_filter, side_free ht]
  unfold mayGoB
  dsimp only
  constructor
  · rintro ⟨h1, h2⟩
    have hlt := reach_lt hf h1
    refine ⟨hlt, ?_⟩
    rw [if_neg (by omega), if_pos (by omega)]
    exact (mem_reach hf hlt hbd.1 hbd.2).1 h1
  · rintro ⟨h1, h2⟩
    split at h2
    · cases h2
    · rename_i h3
      rw [if_pos (by omega)] at h2
      exact ⟨(mem_reach hf h1 hbd.1 hbd.2).2 h2, by omega⟩

theorem own_one {x t : Int} (ht : t = 0 ∨ t = 1) (hown : sideR x = t) (hs : sizeI x = 1) : x = 1 - 2 * t := by
  have ho := (sideR_own ht).1 hown
  have hsz := own_size ht ho
  rcases ht with h | h <;> rw [h] at hsz ⊢ <;> omega

theorem mem_genAt {p : Pos} (hm : MayP p) {fr : Nat} {m : Mv} (hf : fr < 64) : m ∈ genAt p fr ↔ m.fr = fr ∧ m.tg < 64 ∧ sideR (p.L fr) = p.turn ∧ mayGoB p fr m.tg = true ∧ (if lastB p fr m.tg = true then 2 ≤ m.into ∧ m.into ≤ 5 else m.into = 0) := by
  have ht := hm.ok.turn
  unfold genAt
  by_cases hown : sideR (p.L fr) = p.turn
  · rw [if_pos hown]
    by_cases hs : sizeI (p.L fr) = 1
    · rw [if_pos hs]
      have hx := own_one ht hown hs
      unfold pawnG
      rw [List.mem_flatMap]
      have hl : ∀ tg : Nat, (lastB p fr tg = true) ↔ ¬ (8 ≤ tg ∧ tg < 56) := by
        intro tg; unfold lastB; rw [hs]; simp; omega
      constructor
      · rintro ⟨tg, h1, h2⟩
        rw [pawn_gen hm hf hx] at h1
        rw [mem_crownL] at h2
        obtain ⟨h3, rfl, h4⟩ := h2
        refine ⟨h3, h1.1, hown, h1.2, ?_⟩
        by_cases h5 : 8 ≤ m.tg ∧ m.tg < 56
        · rw [if_pos h5] at h4
          rw [if_neg (by rw [hl]; simpa using h5)]; exact h4
        · rw [if_neg h5] at h4
          rw [if_pos ((hl _).2 h5)]; exact h4
      · rintro ⟨h1, h2, _, h3, h4⟩
        refine ⟨m.tg, (pawn_gen hm hf hx).2 ⟨h2, h3⟩, ?_⟩
        rw [mem_crownL]
        refine ⟨h1, rfl, ?_⟩
        by_cases h5 : 8 ≤ m.tg ∧ m.tg < 56
        · rw [if_neg (by rw [hl]; simpa using h5)] at h4
          rw [if_pos h5]; exact h4
        · rw [if_pos ((hl _).2 h5)] at h4
          rw [if_neg h5]; exact h4
    · rw [if_neg hs]
      unfold pieceG
      rw [List.mem_map]
      have hl : ∀ tg : Nat, lastB p fr tg = false := by intro tg; unfold lastB; simp [hs]
      constructor
      · rintro ⟨tg, h1, rfl⟩
        rw [piece_gen hm hf hown hs] at h1
        exact ⟨rfl, h1.1, hown, h1.2, by rw [hl, if_neg (by decide)]⟩
      · rintro ⟨h1, h2, _, h3, h4⟩
        rw [hl, if_neg (by decide)] at h4
        refine ⟨m.tg, (piece_gen hm hf hown hs).2 ⟨h2, h3⟩, ?_⟩
        obtain ⟨a, b, c⟩ := m
        simp at h1 h4 ⊢
        exact ⟨h1.symm, h4.symm⟩
  · rw [if_neg hown]
    simp [hown]

theorem cast_may {p : Pos} (hm : MayP p) {n : Nat} (hn : n < 4) (h0 : 0 ≤ castleToI p n) : ((n / 2 : Nat) : Int) = p.turn ∧ castleToI p n = kingN n + 2 * wayN n ∧ p.L (homeN n) = 6 * (1 - 2 * p.turn) := by
  obtain ⟨h1, h2, h3, h4, h5⟩ := castle_ne rfl h0
  obtain ⟨r1, r2⟩ := hm.right n hn (by omega)
  rw [hue_turn hn h2] at r1
  exact ⟨h2, h5, by rw [r1]; omega⟩

theorem mem_castG {p : Pos} (hm : MayP p) {m : Mv} : m ∈ castG p 2 ↔ sideR (p.L m.fr) = p.turn ∧ m.fr < 64 ∧ m.tg < 64 ∧ castB p m.fr m.tg 4 = true ∧ m.into = 0 := by
  have ht := hm.ok.turn
  have hcast : ∀ n, n < 4 → (m ∈ castAt p n → sideR (p.L m.fr) = p.turn ∧ m.fr < 64 ∧ m.tg < 64 ∧ castB p m.fr m.tg 4 = true ∧ m.into = 0) := by
    intro n hn h
    unfold castAt at h
    split at h
    · simp at h
    · rename_i h0
      rw [List.mem_singleton] at h
      subst h
      obtain ⟨h1, h2, h3⟩ := cast_may hm hn (by omega)
      have hc := Int.eq_ofNat_of_zero_le (show 0 ≤ castleToI p n by omega)
      refine ⟨?_, ?_, ?_, ?_, rfl⟩
      · rw [sideR_own ht, h3]; rcases ht with h | h <;> rw [h] <;> decide
      · show homeN n < 64
        match n, hn with
        | 0, _ | 1, _ | 2, _ | 3, _ => decide
      · show (castleToI p n).toNat < 64
        rw [h2]
        match n, hn with
        | 0, _ | 1, _ | 2, _ | 3, _ => decide
      · unfold castB kingB
        dsimp only
        rw [h3]
        simp only [Bool.and_eq_true, beq_iff_eq, List.any_eq_true, List.mem_range]
        refine ⟨by rcases ht with h | h <;> rw [h] <;> decide, n, hn, by omega⟩
  have htn : p.turn.toNat = 0 ∧ p.turn = 0 ∨ p.turn.toNat = 1 ∧ p.turn = 1 := by omega
  show m ∈ castAt p (2 * p.turn.toNat) ++ castAt p (2 * p.turn.toNat + 1) ↔ _
  rw [List.mem_append]
  constructor
  · rintro (h | h)
    · exact hcast _ (by omega) h
    · exact hcast _ (by omega) h
  · rintro ⟨hown, hf, htg, h, hi⟩
    have hk := h
    unfold castB kingB at hk
    simp only [Bool.and_eq_true, beq_iff_eq, List.any_eq_true, List.mem_range] at hk
    obtain ⟨hk, n, hn, h1⟩ := hk
    obtain ⟨h2, h3, h4⟩ := cast_may hm hn (by omega)
    have e1 : m.fr = homeN n := by
      have ho := (sideR_own ht).1 hown
      have hsz := own_size ht ho
      obtain ⟨k, _, hku⟩ := hm.king p.turn ht
      have e1 := (hku m.fr).1 (by rcases ht with h | h <;> rw [h] at hsz ⊢ <;> omega)
      have e2 := (hku (homeN n)).1 h4
      omega
    have hmem : m ∈ castAt p n := by
      unfold castAt
      rw [if_neg (by omega), List.mem_singleton]
      obtain ⟨a, b, c⟩ := m
      simp at e1 h1 hi ⊢
      exact ⟨e1, by omega, hi⟩
    have hnn : n = 2 * p.turn.toNat ∨ n = 2 * p.turn.toNat + 1 := by omega
    rcases hnn with e | e
    · rw [e] at hmem; exact .inl hmem
    · rw [e] at hmem; exact .inr hmem

theorem mem_genL {p : Pos} (hm : MayP p) {m : Mv} : m ∈ genL p ↔ Pseu p m := by
  unfold genL genUpto
  rw [List.mem_append, mem_castG hm, List.mem_flatMap]
  simp only [List.mem_range]
  constructor
  · rintro (⟨fr, hf, h⟩ | ⟨h1, h2, h3, h4, h5⟩)
    · rw [mem_genAt hm hf] at h
      obtain ⟨rfl, h2, h3, h4, h5⟩ := h
      exact ⟨hf, h2, h3, by unfold okGo; rw [h4]; rfl, h5⟩
    · refine ⟨h2, h3, h1, by unfold okGo; rw [h4, Bool.or_true], ?_⟩
      rw [if_neg]
      · exact h5
      · unfold castB kingB at h4
        simp only [Bool.and_eq_true, beq_iff_eq] at h4
        unfold lastB
        rw [h4.1]
        simp
  · rintro ⟨hf, htg, hown, hgo, hi⟩
    unfold okGo at hgo
    rw [Bool.or_eq_true] at hgo
    rcases hgo with hgo | hgo
    · exact .inl ⟨m.fr, hf, (mem_genAt hm hf).2 ⟨rfl, htg, hown, hgo, hi⟩⟩
    · refine .inr ⟨hown, hf, htg, hgo, ?_⟩
      rw [if_neg] at hi
      · exact hi
      · unfold castB kingB at hgo
        simp only [Bool.and_eq_true, beq_iff_eq] at hgo
        unfold lastB
        rw [hgo.1]
        simp

/-! ### each once -/
theorem crownL_nodup (fr tg : Nat) : (crownL fr tg).Nodup := by
  unfold crownL
  split
  · simp
  · show (crowns fr tg 4).Nodup
    simp [crowns, List.range, List.range.loop]
theorem genAt_nodup {p : Pos} (hm : MayP p) {fr : Nat} (hf : fr < 64) : (genAt p fr).Nodup := by
  have ht := hm.ok.turn
  have hr := reach_nodup (L := p.L) hf
  unfold genAt
  split
  case isFalse => exact List.nodup_nil
  rename_i hown
  split
  case isFalse =>
    unfold pieceG
    unfold List.Nodup
    rw [List.pairwise_map]
    refine (List.Pairwise.filter _ hr).imp ?_
    intro a b hab h
    exact hab (by injection h)
  rename_i hs
  have hx := own_one ht hown hs
  have hpa := hm.pawn fr hf hs
  unfold pawnG List.Nodup
  rw [List.pairwise_flatMap]
  refine ⟨fun a _ => crownL_nodup fr a, ?_⟩
  have hd : (takesL p fr ++ aheadL p fr).Nodup := by
    have hbd := hm.ok.bd fr
    rw [List.nodup_append]
    refine ⟨List.Pairwise.filter _ hr, ?_, ?_⟩
    · unfold aheadL
      split
      · exact List.nodup_nil
      · split
        · rename_i h
          have : fwdN p fr 1 ≠ fwdN p fr 2 := by
            unfold fwdN
            have h := h.1
            rcases ht with h2 | h2 <;> rw [h2] at h ⊢ <;> omega
          simp [this]
        · simp
    · intro a ha b hb hab
      subst hab
      unfold takesL at ha
      rw [List.mem_filter] at ha
      have hlt := reach_lt hf ha.1
      have hatt := (mem_reach hf hlt hbd.1 hbd.2).1 ha.1
      rw [pawn_att hs] at hatt
      have hdx : dxI fr a = 0 := by
        unfold aheadL at hb
        split at hb
        · simp at hb
        · rw [List.mem_cons] at hb
          rcases hb with rfl | hb
          · unfold dxI fwdN; rcases ht with h2 | h2 <;> rw [h2] <;> omega
          · split at hb
            · rename_i h
              rw [List.mem_singleton] at hb
              subst hb
              have h := h.1
              unfold dxI fwdN; rcases ht with h2 | h2 <;> rw [h2] at h ⊢ <;> omega
            · simp at hb
      rw [hdx] at hatt
      exact absurd hatt.1 (by decide)
  refine List.Pairwise.imp ?_ hd
  intro a b hab x hx y hy hxy
  subst hxy
  rw [mem_crownL] at hx hy
  exact hab (hx.2.1.symm.trans hy.2.1)

theorem castAt_nodup (p : Pos) (n : Nat) : (castAt p n).Nodup := by
  unfold castAt
  split <;> simp
theorem genL_nodup {p : Pos} (hm : MayP p) : (genL p).Nodup := by
  have ht := hm.ok.turn
  unfold genL
  rw [List.nodup_append]
  refine ⟨?_, ?_, ?_⟩
  · unfold genUpto List.Nodup
    rw [List.pairwise_flatMap]
    refine ⟨fun a ha => genAt_nodup hm (by simpa using ha), ?_⟩
    have h : (List.range 64).Pairwise (fun a b => a < 64 ∧ b < 64 ∧ a ≠ b) := by decide
    refine h.imp ?_
    rintro a b ⟨ha, hb, hab⟩ x hx y hy hxy
    subst hxy
    rw [mem_genAt hm ha] at hx
    rw [mem_genAt hm hb] at hy
    exact hab (hx.1.symm.trans hy.1)
  · show (castAt p (2 * p.turn.toNat) ++ castAt p (2 * p.turn.toNat + 1)).Nodup
    rw [List.nodup_append]
    refine ⟨castAt_nodup _ _, castAt_nodup _ _, ?_⟩
    intro a ha b hb hab
    subst hab
    unfold castAt at ha hb
    split at ha
    · simp at ha
    split at hb
    · simp at hb
    rw [List.mem_singleton] at ha hb
    rw [ha] at hb
    obtain ⟨_, h2, _⟩ := cast_may hm (n := 2 * p.turn.toNat) (by omega) (by omega)
    obtain ⟨_, h3, _⟩ := cast_may hm (n := 2 * p.turn.toNat + 1) (by omega) (by omega)
    rw [h2, h3] at hb
    injection hb with _ hb _
    have htn : p.turn.toNat = 0 ∨ p.turn.toNat = 1 := by omega
    rcases htn with e | e <;> rw [e] at hb <;> exact absurd hb (by decide)
  · intro a ha b hb hab
    subst hab
    rw [mem_castG hm] at hb
    obtain ⟨h1, h2, h3, h4, h5⟩ := hb
    obtain ⟨n, hC⟩ := castB_of hm h1 h4
    unfold genUpto at ha
    rw [List.mem_flatMap] at ha
    obtain ⟨fr, hfr, ha⟩ := ha
    rw [mem_genAt hm (by simpa using hfr)] at ha
    obtain ⟨rfl, _, _, hgo, _⟩ := ha
    have hs6 : sizeI (p.L a.fr) = 6 := by rw [hC.king]; rcases ht with h | h <;> rw [h] <;> decide
    unfold mayGoB at hgo
    dsimp only at hgo
    split at hgo
    · cases hgo
    · rw [if_pos (by rw [hC.king]; rcases ht with h | h <;> rw [h] <;> decide), king_att hs6] at hgo
      obtain ⟨e1, e2, _, _⟩ := cast_land hC
      have h4 := hC.n4
      have hdx : ¬ sizeI (dxI a.fr a.tg) ≤ 1 := by
        rw [e1, e2]
        match n, h4 with
        | 0, _ | 1, _ | 2, _ | 3, _ => decide
      exact hdx hgo.2.1

/-- What the program finds, those that leave the king in check left out. -/
def foundL (p : Pos) : List Mv := (genL p).filter fun m => safeGo p m.fr m.tg
theorem mem_foundL {p : Pos} (hm : MayP p) {m : Mv} : m ∈ foundL p ↔ m ∈ movesR p := by
  unfold foundL
  rw [List.mem_filter, mem_genL hm, mem_movesR]
theorem foundL_nodup {p : Pos} (hm : MayP p) : (foundL p).Nodup := List.Pairwise.filter _ (genL_nodup hm)

/-! ### in order -/
def ltM (a b : Mv) : Prop := a.fr < b.fr ∨ a.fr = b.fr ∧ (a.tg < b.tg ∨ a.tg = b.tg ∧ a.into < b.into)
theorem ltM_irr (a : Mv) : ¬ ltM a a := by unfold ltM; omega
theorem ltM_trans {a b c : Mv} (h : ltM a b) (k : ltM b c) : ltM a c := by unfold ltM at *; omega
theorem ltM_tri (a b : Mv) (h : ¬ ltM a b) : ltM b a ∨ a = b := by
  obtain ⟨a1, a2, a3⟩ := a
  obtain ⟨b1, b2, b3⟩ := b
  by_cases e : a1 = b1 ∧ a2 = b2 ∧ a3 = b3
  · obtain ⟨rfl, rfl, rfl⟩ := e; exact .inr rfl
  · refine .inl ?_
    unfold ltM at *
    dsimp only at *
    omega
theorem sorted_ext : ∀ (l k : List Mv), l.Pairwise ltM → k.Pairwise ltM → (∀ x, x ∈ l ↔ x ∈ k) → l = k
  | [], [], _, _, _ => rfl
  | [], b :: k, _, _, h => absurd ((h b).2 (by simp)) (by simp)
  | a :: l, [], _, _, h => absurd ((h a).1 (by simp)) (by simp)
  | a :: l, b :: k, hl, hk, h => by
    rw [List.pairwise_cons] at hl hk
    have hab : a = b := by
      have h1 := (h a).1 (by simp)
      have h2 := (h b).2 (by simp)
      rw [List.mem_cons] at h1 h2
      rcases h1 with h1 | h1
      · exact h1
      · rcases h2 with h2 | h2
        · exact h2.symm
        · exact absurd (ltM_trans (hl.1 b h2) (hk.1 a h1)) (ltM_irr a)
    subst hab
    rw [sorted_ext l k hl.2 hk.2]
    intro x
    constructor
    · intro hx
      have h1 := (h x).1 (by simp [hx])
      rw [List.mem_cons] at h1
      rcases h1 with rfl | h1
      · exact absurd (hl.1 _ hx) (ltM_irr _)
      · exact h1
    · intro hx
      have h1 := (h x).2 (by simp [hx])
      rw [List.mem_cons] at h1
      rcases h1 with rfl | h1
      · exact absurd (hk.1 _ hx) (ltM_irr _)
      · exact h1

theorem range_lt (n : Nat) : (List.range n).Pairwise (· < ·) := List.pairwise_lt_range
theorem movesAt_sorted (p : Pos) (fr tg : Nat) : (movesAt p fr tg).Pairwise ltM ∧ ∀ m, m ∈ movesAt p fr tg → m.fr = fr ∧ m.tg = tg := by
  unfold movesAt
  split
  · split
    · refine ⟨?_, fun m hm => ?_⟩
      · simp [crowns, List.range, List.range.loop, ltM]
      · rw [mem_crowns] at hm; exact ⟨hm.1, hm.2.1⟩
    · refine ⟨by simp, fun m hm => ?_⟩
      rw [List.mem_singleton] at hm; subst hm; exact ⟨rfl, rfl⟩
  · exact ⟨List.Pairwise.nil, fun m hm => by simp at hm⟩
theorem movesFrom_sorted (p : Pos) (fr n : Nat) : (movesFrom p fr n).Pairwise ltM ∧ ∀ m, m ∈ movesFrom p fr n → m.fr = fr := by
  unfold movesFrom
  refine ⟨?_, fun m hm => ?_⟩
  · rw [List.pairwise_flatMap]
    refine ⟨fun a _ => (movesAt_sorted p fr a).1, (range_lt n).imp ?_⟩
    intro a b hab x hx y hy
    have h1 := (movesAt_sorted p fr a).2 x hx
    have h2 := (movesAt_sorted p fr b).2 y hy
    unfold ltM; omega
  · rw [List.mem_flatMap] at hm
    obtain ⟨a, _, ha⟩ := hm
    exact ((movesAt_sorted p fr a).2 m ha).1
theorem movesR_sorted (p : Pos) : (movesR p).Pairwise ltM := by
  unfold movesR movesUpto
  rw [List.pairwise_flatMap]
  refine ⟨fun a _ => ?_, (range_lt 64).imp ?_⟩
  · split
    · exact (movesFrom_sorted p a 64).1
    · exact List.Pairwise.nil
  · intro a b hab x hx y hy
    split at hx
    case isFalse => simp at hx
    split at hy
    case isFalse => simp at hy
    have h1 := (movesFrom_sorted p a 64).2 x hx
    have h2 := (movesFrom_sorted p b 64).2 y hy
    unfold ltM; omega

/-- What is found, sorted, is the reference's list. -/
theorem sorted_found {p : Pos} (hm : MayP p) {l : List Mv} (hp : l.Perm (foundL p)) (hs : l.Pairwise fun a b => ¬ ltM b a) : l = movesR p := by
  have hn : l.Nodup := hp.nodup_iff.2 (foundL_nodup hm)
  refine sorted_ext l _ ?_ (movesR_sorted p) (fun x => (hp.mem_iff).trans (mem_foundL hm))
  have h2 := List.Pairwise.and hs hn
  refine h2.imp ?_
  rintro a b ⟨h3, h4⟩
  rcases ltM_tri b a h3 with h5 | h5
  · exact h5
  · exact absurd h5.symm h4

end Go.Proofs.YthffhhbbhjcdeaaGreatDoor
