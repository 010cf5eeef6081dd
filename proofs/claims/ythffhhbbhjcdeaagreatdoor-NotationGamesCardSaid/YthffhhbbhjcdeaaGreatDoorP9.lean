/- PLAIN LEAN: what the program reads of a word is what the reference reads of it: runes against bytes. PLAIN: what the program makes of a word ahead of the signs. -/
import Derived.Test.YthffhhbbhjcdeaaGreatDoorP8
import Derived.Lib.MapLaws
import Derived.Lib.ReplaceLaws
import Derived.Lib.IndexLaws
set_option linter.unusedVariables false
set_option linter.unusedSimpArgs false
namespace Go.Proofs.YthffhhbbhjcdeaaGreatDoor
open Go.Lib

/-- What a sign of a piece becomes; other runes stay. -/
def pieceF (c : Int) : Int :=
  if c = 9812 ∨ c = 9818 then 75 else if c = 9813 ∨ c = 9819 then 81 else if c = 9814 ∨ c = 9820 then 82 else if c = 9815 ∨ c = 9821 then 66 else if c = 9816 ∨ c = 9822 then 78 else c

def hitK (k : Nat) (s : List UInt8) : Option Nat := (List.range k).find? fun i => s.take 3 == signL i
/-- The first k signs become letters, all at once. -/
def decK (k : Nat) : Nat → List UInt8 → List UInt8
  | 0, _ => []
  | _ + 1, [] => []
  | f + 1, c :: r => match hitK k (c :: r) with | some i => kindL i ++ decK k f (r.drop 2) | none => c :: decK k f r

theorem decK_fuel (k : Nat) : ∀ (f g : Nat) (s : List UInt8), s.length < f → s.length < g → decK k f s = decK k g s
  | 0, _, _, h, _ => by omega
  | _, 0, _, _, h => by omega
  | f + 1, g + 1, [], _, _ => rfl
  | f + 1, g + 1, c :: r, hf, hg => by
    simp only [List.length_cons] at hf hg
    unfold decK
    rw [decK_fuel k f g (r.drop 2) (by rw [List.length_drop]; omega) (by rw [List.length_drop]; omega), decK_fuel k f g r (by omega) (by omega)]
def dec (k : Nat) (s : List UInt8) : List UInt8 := decK k (s.length + 1) s
theorem dec_nil (k : Nat) : dec k [] = [] := rfl
theorem dec_hit {k i : Nat} {c : UInt8} {r : List UInt8} (h : hitK k (c :: r) = some i) : dec k (c :: r) = kindL i ++ dec k (r.drop 2) := by
  unfold dec
  rw [show (c :: r).length + 1 = (r.length + 1) + 1 by simp]
  conv => lhs; unfold decK
  rw [h]
  show kindL i ++ _ = _
  rw [decK_fuel k (r.length + 1) ((r.drop 2).length + 1) _ (by rw [List.length_drop]; omega) (by omega)]
theorem dec_miss {k : Nat} {c : UInt8} {r : List UInt8} (h : hitK k (c :: r) = none) : dec k (c :: r) = c :: dec k r := by
  unfold dec
  rw [show (c :: r).length + 1 = (r.length + 1) + 1 by simp]
  conv => lhs; unfold decK
  rw [h]

theorem sign_shape {i : Nat} (h : i < 10) : ∃ x, signL i = [226, 153, x] ∧ x ≠ 226 ∧ 148 ≤ x ∧ x ≠ 153 ∧ x ≤ 158 := by
  match i, h with
  | 0, _ | 1, _ | 2, _ | 3, _ | 4, _ | 5, _ | 6, _ | 7, _ | 8, _ | 9, _ => exact ⟨_, rfl, by decide, by decide, by decide, by decide⟩
theorem kind_shape (i : Nat) : ∃ l, kindL i = [l] ∧ l ∈ ([75, 81, 82, 66, 78] : List UInt8) := by
  have h : i % 5 < 5 := Nat.mod_lt _ (by decide)
  unfold kindL
  generalize i % 5 = k at h
  match k, h with
  | 0, _ | 1, _ | 2, _ | 3, _ | 4, _ => exact ⟨_, rfl, by decide⟩
theorem kind_small {l : UInt8} (h : l ∈ ([75, 81, 82, 66, 78] : List UInt8)) : l ≠ 226 ∧ l < 128 ∧ l ≠ 153 ∧ ¬ 148 ≤ l := by
  have key : ∀ l ∈ ([75, 81, 82, 66, 78] : List UInt8), l ≠ 226 ∧ l < 128 ∧ l ≠ 153 ∧ ¬ 148 ≤ l := by decide
  exact key l h
theorem hitK_some {k i : Nat} {s : List UInt8} (h : hitK k s = some i) : i < k ∧ s.take 3 = signL i := by
  unfold hitK at h
  have h1 := List.find?_some h
  have h2 := List.mem_of_find?_eq_some h
  exact ⟨by simpa using h2, by simpa using h1⟩
theorem hitK_none {k : Nat} {s : List UInt8} (h : hitK k s = none) : ∀ i, i < k → s.take 3 ≠ signL i := by
  unfold hitK at h
  rw [List.find?_eq_none] at h
  intro i hi h2
  exact h i (by simpa using hi) (by simpa using h2)
theorem hitK_head {k : Nat} (hk : k ≤ 10) {c : UInt8} {r : List UInt8} (hc : c ≠ 226) : hitK k (c :: r) = none := by
  unfold hitK
  rw [List.find?_eq_none]
  intro i hi h
  have hi : i < k := by simpa using hi
  obtain ⟨x, hx, _⟩ := sign_shape (show i < 10 by omega)
  rw [hx] at h
  simp at h
  exact hc h.1
theorem hitK_succ {k : Nat} {s : List UInt8} : hitK (k + 1) s = (hitK k s).or (if s.take 3 = signL k then some k else none) := by
  unfold hitK
  rw [List.range_succ, List.find?_append]
  congr 1
  by_cases h : s.take 3 = signL k
  · rw [if_pos h, h]; simp
  · rw [if_neg h]; simp [h]

theorem dec_zero : ∀ s : List UInt8, dec 0 s = s
  | [] => rfl
  | c :: r => by rw [dec_miss (by simp [hitK]), dec_zero r]

/-- What the first bytes of the decoded text are. -/
theorem dec_first {k : Nat} {s : List UInt8} {x : UInt8} {q : List UInt8} (hx : 128 ≤ x) (h : dec k s = x :: q) : ∃ r, s = x :: r ∧ dec k r = q := by
  cases s with
  | nil => rw [dec_nil] at h; cases h
  | cons c r =>
    cases hh : hitK k (c :: r) with
    | some i =>
      rw [dec_hit hh] at h
      obtain ⟨l, hl, hl2⟩ := kind_shape i
      rw [hl] at h
      injection h with h1 _
      have := (kind_small hl2).2.1
      rw [h1] at this
      exact absurd this (by simpa using hx)
    | none =>
      rw [dec_miss hh] at h
      injection h with h1 h2
      subst h1
      exact ⟨r, rfl, h2⟩

theorem repl_dec {k : Nat} (hk : k < 10) : ∀ (n : Nat) (s : List UInt8) (F : Nat), s.length ≤ n → (dec k s).length < F → replL (signL k) (kindL k) F (dec k s) = dec (k + 1) s
  | 0, [], F, _, hF => by
    rw [dec_nil] at hF ⊢
    obtain ⟨F', rfl⟩ : ∃ F', F = F' + 1 := ⟨F - 1, by simp at hF; omega⟩
    rfl
  | n + 1, [], F, _, hF => by
    rw [dec_nil] at hF ⊢
    obtain ⟨F', rfl⟩ : ∃ F', F = F' + 1 := ⟨F - 1, by simp at hF; omega⟩
    rfl
  | 0, c :: r, F, h, _ => by simp at h
  | n + 1, c :: r, F, hn, hF => by
    simp only [List.length_cons] at hn
    obtain ⟨F', rfl⟩ : ∃ F', F = F' + 1 := ⟨F - 1, by omega⟩
    obtain ⟨x, hx, hx2, hx3, hx4⟩ := sign_shape hk
    cases hh : hitK k (c :: r) with
    | some i =>
      obtain ⟨l, hl, hl2⟩ := kind_shape i
      have hk1 : hitK (k + 1) (c :: r) = some i := by rw [hitK_succ, hh]; rfl
      rw [dec_hit hk1]
      rw [dec_hit hh] at hF ⊢
      rw [hl] at hF ⊢
      show replL _ _ (F' + 1) (l :: dec k (r.drop 2)) = _
      unfold replL
      rw [if_neg (by rw [hx]; intro h; simp at h; exact (kind_small hl2).1 h.1)]
      rw [repl_dec hk n (r.drop 2) F' (by rw [List.length_drop]; omega) (by simp at hF; omega)]
      rfl
    | none =>
      rw [dec_miss hh] at hF ⊢
      simp only [List.length_cons] at hF
      unfold replL
      by_cases hs : (c :: r).take 3 = signL k
      · have hk1 : hitK (k + 1) (c :: r) = some k := by rw [hitK_succ, hh, if_pos hs]; rfl
        rw [dec_hit hk1]
        rw [hx] at hs
        match r, hs with
        | b :: y :: r3, hs =>
          simp at hs
          obtain ⟨rfl, rfl, rfl⟩ := hs
          rw [dec_miss (hitK_head (by omega) (by decide)), dec_miss (hitK_head (by omega) hx2)] at hF ⊢
          rw [if_pos (by rw [hx]; rfl), hx]
          show kindL k ++ replL _ _ F' (dec k r3) = kindL k ++ dec (k + 1) r3
          simp only [List.length_cons] at hn hF
          have := repl_dec hk n r3 F' (by omega) (by omega)
          rw [hx] at this
          rw [this]
      · have hk1 : hitK (k + 1) (c :: r) = none := by rw [hitK_succ, hh, if_neg hs]; rfl
        rw [dec_miss hk1, if_neg, repl_dec hk n r F' (by omega) (by omega)]
        intro h
        rw [hx] at h
        have h3 : ∃ q, c :: dec k r = 226 :: 153 :: x :: q := by
          match hd : dec k r, h with
          | [], h => simp at h
          | [a], h => simp at h
          | a :: b :: q, h => simp at h; obtain ⟨rfl, rfl, rfl⟩ := h; exact ⟨q, rfl⟩
        obtain ⟨q, h3⟩ := h3
        injection h3 with h4 h5
        obtain ⟨r1, e1, h6⟩ := dec_first (by decide) h5
        obtain ⟨r2, e2, h7⟩ := dec_first (by have := hx3; exact UInt8.le_trans (by decide) this) h6
        rw [h4, e1, e2] at hs
        exact hs (by rw [hx]; rfl)

theorem put_dec (s : List UInt8) : ∀ n, n ≤ 10 → putL s n = dec n s
  | 0, _ => (dec_zero s).symm
  | n + 1, h => by
    show putOne (putL s n) n = _
    rw [put_dec s n (by omega)]
    unfold putOne
    exact repl_dec (by omega) s.length s _ (Nat.le_refl _) (by omega)

/-! ### runes -/
def Ascii (l : List UInt8) : Prop := ∀ x, x ∈ l → x < 128
theorem decode_one {c : UInt8} {r : List UInt8} (h : c < 128) : decodeL (c :: r) = (c.toNat, 1) := by
  have h2 : c.toNat < 128 := by simpa using UInt8.lt_iff_toNat_lt.1 h
  unfold decodeL Utf8.decode
  simp [ByteArray.get!, h2]
theorem decode_sign {x : UInt8} {r : List UInt8} (h1 : 148 ≤ x) (h2 : x ≤ 159) : decodeL (226 :: 153 :: x :: r) = (9792 + (x.toNat - 128), 3) := by
  have key : ∀ n : Nat, n < 160 → 148 ≤ n → n / 64 = 2 ∧ Utf8.valid ((9792 : Int) + (n : Int) % 64) = true ∧ 9792 + n % 64 = 9792 + (n - 128) := by decide
  have h1' : 148 ≤ x.toNat := by simpa using UInt8.le_iff_toNat_le.1 h1
  have h2' : x.toNat ≤ 159 := by simpa using UInt8.le_iff_toNat_le.1 h2
  obtain ⟨k1, k3, k4⟩ := key x.toNat (by omega) h1'
  unfold decodeL Utf8.decode
  simp [ByteArray.get!, ByteArray.size, k1]
  rw [if_pos ⟨by omega, by simpa using k3⟩]
  rw [← k4]

theorem sign_rune (i : Nat) (h : i < 10) (r : List UInt8) : decodeL (signL i ++ r) = ([9812, 9813, 9814, 9815, 9816, 9818, 9819, 9820, 9821, 9822][i]?.getD 0, 3) := by
  match i, h with
  | 0, _ | 1, _ | 2, _ | 3, _ | 4, _ | 5, _ | 6, _ | 7, _ | 8, _ | 9, _ => exact decode_sign (by decide) (by decide)
theorem sign_piece (i : Nat) (h : i < 10) : 0 ≤ pieceF (([9812, 9813, 9814, 9815, 9816, 9818, 9819, 9820, 9821, 9822][i]?.getD 0 : Nat) : Int) ∧ encodeRune (pieceF (([9812, 9813, 9814, 9815, 9816, 9818, 9819, 9820, 9821, 9822][i]?.getD 0 : Nat) : Int)) = kindL i := by
  match i, h with
  | 0, _ | 1, _ | 2, _ | 3, _ | 4, _ | 5, _ | 6, _ | 7, _ | 8, _ | 9, _ => exact ⟨by decide, by decide⟩

theorem piece_other {c : Int} (h : ∀ i, i < 10 → c ≠ (([9812, 9813, 9814, 9815, 9816, 9818, 9819, 9820, 9821, 9822][i]?.getD 0 : Nat) : Int)) : pieceF c = c := by
  have h0 := h 0 (by omega); have h1 := h 1 (by omega); have h2 := h 2 (by omega); have h3 := h 3 (by omega); have h4 := h 4 (by omega)
  have h5 := h 5 (by omega); have h6 := h 6 (by omega); have h7 := h 7 (by omega); have h8 := h 8 (by omega); have h9 := h 9 (by omega)
  simp at h0 h1 h2 h3 h4 h5 h6 h7 h8 h9
  unfold pieceF
  rw [if_neg (by omega), if_neg (by omega), if_neg (by omega), if_neg (by omega), if_neg (by omega)]

theorem width_pos (l : List UInt8) : 1 ≤ (decodeL l).2 := by
  unfold decodeL Utf8.decode
  dsimp only
  split
  · exact Nat.le_refl _
  split
  · split <;> simp
  split
  · split <;> simp
  split
  · split <;> simp
  · exact Nat.le_refl _

theorem code_at (i : Nat) (h : i < 10) : encodeRune (([9812, 9813, 9814, 9815, 9816, 9818, 9819, 9820, 9821, 9822][i]?.getD 0 : Nat) : Int) = signL i ∧ ([9812, 9813, 9814, 9815, 9816, 9818, 9819, 9820, 9821, 9822][i]?.getD 0 : Nat) ≠ 65533 := by
  match i, h with
  | 0, _ | 1, _ | 2, _ | 3, _ | 4, _ | 5, _ | 6, _ | 7, _ | 8, _ | 9, _ => exact ⟨by decide, by decide⟩

/-- A byte beyond ASCII that is no sign's first one stays beyond ASCII. -/
theorem big_head {c : UInt8} {r : List UInt8} (hc : 128 ≤ c) (hh : hitK 10 (c :: r) = none) : 0 ≤ pieceF ((decodeL (c :: r)).1 : Int) ∧ ∃ x q, 128 ≤ x ∧ encodeRune (pieceF ((decodeL (c :: r)).1 : Int)) = x :: q := by
  have hp : pieceF ((decodeL (c :: r)).1 : Int) = ((decodeL (c :: r)).1 : Int) := by
    refine piece_other fun i hi he => ?_
    obtain ⟨h1, h2⟩ := code_at i hi
    have he : (decodeL (c :: r)).1 = [9812, 9813, 9814, 9815, 9816, 9818, 9819, 9820, 9821, 9822][i]?.getD 0 := by omega
    have h3 := encode_decode (c :: r) (by simp) (fun h => h2 (by rw [← he]; exact h.1))
    rw [he, h1] at h3
    refine hitK_none hh i hi ?_
    obtain ⟨x, hx, _⟩ := sign_shape hi
    have hlen : (signL i).length = 3 := by rw [hx]; rfl
    rw [h3, List.length_take] at hlen
    rw [h3]
    rcases Nat.le_total (decodeL (c :: r)).2 (c :: r).length with h4 | h4
    · rw [Nat.min_eq_left h4] at hlen; rw [hlen]
    · rw [Nat.min_eq_right h4] at hlen
      rw [List.take_of_length_le (by omega), List.take_of_length_le h4]
  rw [hp]
  refine ⟨by omega, ?_⟩
  by_cases hv : (decodeL (c :: r)).1 = 65533 ∧ (decodeL (c :: r)).2 = 1
  · rw [hv.1]
    exact ⟨239, [191, 189], by decide, by decide⟩
  · rw [encode_decode (c :: r) (by simp) hv]
    obtain ⟨n, hn⟩ : ∃ n, (decodeL (c :: r)).2 = n + 1 := ⟨(decodeL (c :: r)).2 - 1, by have := width_pos (c :: r); omega⟩
    rw [hn]
    exact ⟨c, r.take n, hc, rfl⟩

theorem map_dec : ∀ (n : Nat) (s T : List UInt8), s.length ≤ n → Ascii T → (mapD pieceF s = T ↔ dec 10 s = T)
  | _, [], T, _, _ => by rw [mapD_nil, dec_nil]
  | 0, c :: r, T, h, _ => by simp at h
  | n + 1, c :: r, T, hn, hT => by
    simp only [List.length_cons] at hn
    rw [mapD_step _ _ (by simp)]
    rcases UInt8.lt_or_le c 128 with hc | hc
    · have h226 : c ≠ 226 := by rintro rfl; exact absurd hc (by decide)
      rw [dec_miss (hitK_head (by omega) h226), decode_one hc]
      have h2 : c.toNat < 128 := by simpa using UInt8.lt_iff_toNat_lt.1 hc
      have hp : pieceF (c.toNat : Int) = c.toNat := by unfold pieceF; rw [if_neg (by omega), if_neg (by omega), if_neg (by omega), if_neg (by omega), if_neg (by omega)]
      have he : encodeRune (c.toNat : Int) = [c] := by unfold encodeRune; rw [encodeRuneZ_one (by omega) (by omega)]; simp
      dsimp only
      rw [hp, if_pos (by omega), he]
      show c :: mapD pieceF r = T ↔ _
      cases T with
      | nil => simp
      | cons t T =>
        have ih := map_dec n r T (by omega) (fun x hx => hT x (by simp [hx]))
        simp only [List.cons.injEq, ih]
    · cases hh : hitK 10 (c :: r) with
      | some i =>
        obtain ⟨hi, h3⟩ := hitK_some hh
        obtain ⟨x, hx, _⟩ := sign_shape hi
        have hs : c :: r = signL i ++ r.drop 2 := by
          rw [← h3]; exact (List.take_append_drop 3 (c :: r)).symm
        rw [dec_hit hh, hs, sign_rune i hi]
        obtain ⟨p1, p2⟩ := sign_piece i hi
        dsimp only
        rw [if_pos p1, p2]
        have hd : (signL i ++ r.drop 2).drop 3 = r.drop 2 := by rw [hx]; rfl
        rw [hd]
        obtain ⟨l, hl, _⟩ := kind_shape i
        rw [hl]
        cases T with
        | nil => simp
        | cons t T =>
          have ih := map_dec n (r.drop 2) T (by rw [List.length_drop]; omega) (fun x hx => hT x (by simp [hx]))
          simp only [List.cons_append, List.nil_append, List.cons.injEq, ih]
      | none =>
        obtain ⟨p1, x, q, hx, he⟩ := big_head hc hh
        rw [dec_miss hh, if_pos p1, he]
        have hno : ∀ (y : UInt8) (l : List UInt8), 128 ≤ y → y :: l ≠ T := by
          intro y l hy h
          have := hT y (by rw [← h]; simp)
          exact absurd this (by simpa using hy)
        constructor
        · intro h; exact absurd h (hno x _ hx)
        · intro h; exact absurd h (hno c _ hc)

theorem map_put {s T : List UInt8} (hT : Ascii T) : mapD pieceF s = T ↔ putL s 10 = T := by
  rw [put_dec s 10 (Nat.le_refl _)]
  exact map_dec s.length s T (Nat.le_refl _) hT

/-- Where no letter of a piece stands, nothing has been put. -/
theorem dec_plain : ∀ (n : Nat) (s T : List UInt8), s.length ≤ n → Ascii T → (∀ x, x ∈ T → x ∉ ([75, 81, 82, 66, 78] : List UInt8)) → (dec 10 s = T ↔ s = T)
  | _, [], T, _, _, _ => by rw [dec_nil]
  | 0, c :: r, T, h, _, _ => by simp at h
  | n + 1, c :: r, T, hn, hT, hL => by
    simp only [List.length_cons] at hn
    cases hh : hitK 10 (c :: r) with
    | some i =>
      obtain ⟨hi, h3⟩ := hitK_some hh
      obtain ⟨x, hx, _⟩ := sign_shape hi
      obtain ⟨l, hl, hl2⟩ := kind_shape i
      rw [dec_hit hh, hl]
      constructor
      · intro h; exact absurd hl2 (hL l (by rw [← h]; simp))
      · intro h
        rw [hx] at h3
        simp at h3
        have := hT c (by rw [← h]; simp)
        rw [h3.1] at this
        exact absurd this (by decide)
    | none =>
      rw [dec_miss hh]
      cases T with
      | nil => simp
      | cons t T =>
        have ih := dec_plain n r T (by omega) (fun x hx => hT x (by simp [hx])) (fun x hx => hL x (by simp [hx]))
        simp only [List.cons.injEq, ih]
theorem put_plain {s T : List UInt8} (hT : Ascii T) (hL : ∀ x, x ∈ T → x ∉ ([75, 81, 82, 66, 78] : List UInt8)) : putL s 10 = T ↔ s = T := by
  rw [put_dec s 10 (Nat.le_refl _)]
  exact dec_plain s.length s T (Nat.le_refl _) hT hL
theorem put_head {c : UInt8} {r : List UInt8} (hc : c ≠ 226) : ∃ q, putL (c :: r) 10 = c :: q := by
  rw [put_dec _ 10 (Nat.le_refl _), dec_miss (hitK_head (Nat.le_refl _) hc)]
  exact ⟨_, rfl⟩

/-! ### words -/
def zo (c : UInt8) : UInt8 := if c = 48 then 79 else c
def oz (c : UInt8) : UInt8 := if c = 79 then 48 else c
/-- What the program makes of a word, ahead of the signs. -/
def progIn (s : List UInt8) : List UInt8 := if s.take 3 = [48, 45, 48] ∧ 79 ∉ s then s.map zo else s
def progW (s : List UInt8) : List UInt8 := mapD pieceF (progIn s)
def progHit (p : Pos) (s : List UInt8) (m : Mv) : Bool := progW s == plainL p m || progW s == plainL p m ++ endL p m
def progParse (p : Pos) (s : List UInt8) : Option Mv := (movesR p).find? (progHit p s)

def castW : List (List UInt8) := [[79, 45, 79], [79, 45, 79, 45, 79], [79, 45, 79, 43], [79, 45, 79, 35], [79, 45, 79, 45, 79, 43], [79, 45, 79, 45, 79, 35]]
theorem castW_facts : ∀ T ∈ castW, (∀ x ∈ T, x < 128) ∧ (∀ x ∈ T, x ∉ ([75, 81, 82, 66, 78] : List UInt8)) ∧ (∀ x ∈ T.map oz, x < 128) ∧ (∀ x ∈ T.map oz, x ∉ ([75, 81, 82, 66, 78] : List UInt8)) ∧ zeroL T = T.map oz ∧ (T.map oz).map zo = T ∧ (T.map oz).take 3 = [48, 45, 48] ∧ 79 ∉ T.map oz ∧ (∃ q, T = 79 :: q) := by
  intro T hT
  simp only [castW, List.mem_cons, List.not_mem_nil, or_false] at hT
  rcases hT with rfl | rfl | rfl | rfl | rfl | rfl <;> exact ⟨by decide, by decide, by decide, by decide, by decide, by decide, by decide, by decide, _, rfl⟩

theorem endL_cases (p : Pos) (m : Mv) : endL p m = [] ∨ endL p m = [43] ∨ endL p m = [35] := by
  unfold endL
  split
  · split
    · exact .inr (.inr rfl)
    · exact .inr (.inl rfl)
  · exact .inl rfl
theorem ascii_app {a b : List UInt8} (ha : Ascii a) (hb : Ascii b) : Ascii (a ++ b) := by
  intro x hx
  rcases List.mem_append.1 hx with h | h
  · exact ha x h
  · exact hb x h
theorem name_ascii {n : Nat} (h : n < 64) : Ascii (nameL n) := by
  have key : ∀ n < 64, ∀ x ∈ nameL n, x < 128 := by decide
  exact key n h
theorem name_head {n : Nat} (h : n < 64) : ∃ a b, nameL n = [a, b] ∧ a ≠ 48 ∧ a ≠ 79 ∧ a < 128 ∧ b < 128 := by
  have key : ∀ n < 64, UInt8.ofNat (97 + n % 8) ≠ 48 ∧ UInt8.ofNat (97 + n % 8) ≠ 79 ∧ UInt8.ofNat (97 + n % 8) < 128 ∧ UInt8.ofNat (49 + n / 8) < 128 := by decide
  exact ⟨_, _, rfl, key n h⟩
theorem letter_ascii (n : Nat) : Ascii (letterL n) := by
  intro x hx
  unfold letterL at hx
  have h1 := List.mem_of_mem_drop (List.mem_of_mem_take hx)
  have key : ∀ x ∈ ([32, 80, 78, 66, 82, 81, 75] : List UInt8), x < 128 := by decide
  exact key x h1
theorem end_ascii (p : Pos) (m : Mv) : Ascii (endL p m) := by
  rcases endL_cases p m with h | h | h <;> rw [h] <;> intro x hx <;> simp at hx <;> (try subst hx) <;> decide

theorem plain_facts {p : Pos} (hm : MayP p) {m : Mv} (h : Pseu p m) : Ascii (plainL p m) ∧
    ((plainL p m ∈ [[79, 45, 79], [79, 45, 79, 45, 79]]) ∨ ∃ a q, plainL p m = a :: q ∧ a ≠ 48 ∧ a ≠ 79) := by
  unfold plainL
  split
  · split
    · exact ⟨by intro x hx; simp at hx; rcases hx with rfl | rfl | rfl <;> decide, .inl (by simp)⟩
    · exact ⟨by intro x hx; simp at hx; rcases hx with rfl | rfl | rfl | rfl | rfl <;> decide, .inl (by simp)⟩
  · have ht := hm.ok.turn
    have ho := (sideR_own ht).1 h.own
    have hsz := own_size ht ho
    have hbd := hm.ok.bd m.fr
    obtain ⟨a, b, hab, h48, h79, ha, hb⟩ := name_head h.tg
    obtain ⟨a2, b2, hab2, h482, h792, ha2, hb2⟩ := name_head h.fr
    have hto : Ascii (if takesB p m then [(120 : UInt8)] else []) := by split <;> intro x hx <;> simp at hx; subst hx; decide
    have hin : Ascii (intoL m) := by
      unfold intoL; split
      · refine ascii_app (fun x hx => ?_) (letter_ascii _)
        simp at hx; subst hx; decide
      · intro x hx; simp at hx
    have hhead : Ascii (headL p m) ∧ (headL p m = [] ∧ takesB p m = false ∨ ∃ a q, headL p m = a :: q ∧ a ≠ 48 ∧ a ≠ 79) := by
      unfold headL takesB
      cases hp : pawnB p m
      · simp only [Bool.false_eq_true, if_false]
        constructor
        · refine ascii_app (letter_ascii _) ?_
          unfold originL originOf
          rw [hab2]
          intro x hx
          split at hx
          · split at hx
            · split at hx
              · simp at hx; rcases hx with rfl | rfl <;> assumption
              · simp at hx; subst hx; assumption
            · simp at hx; subst hx; assumption
          · simp at hx
        · right
          have h2 : 2 ≤ (sizeI (p.L m.fr)).toNat ∧ (sizeI (p.L m.fr)).toNat ≤ 6 := by
            unfold pawnB at hp
            simp at hp
            unfold sizeI at *
            split at hsz <;> omega
          generalize (sizeI (p.L m.fr)).toNat = k at h2
          obtain ⟨h2, h6⟩ := h2
          have hk : k = 2 ∨ k = 3 ∨ k = 4 ∨ k = 5 ∨ k = 6 := by omega
          rcases hk with rfl | rfl | rfl | rfl | rfl <;> exact ⟨_, _, rfl, by decide, by decide⟩
      · simp only [if_true]
        split
        · rename_i hc
          rw [hab2]
          exact ⟨by intro x hx; simp at hx; subst hx; assumption, .inr ⟨a2, [], rfl, h482, h792⟩⟩
        · rename_i hc
          exact ⟨by intro x hx; simp at hx, .inl ⟨rfl, by simpa using hc⟩⟩
    refine ⟨ascii_app (ascii_app (ascii_app hhead.1 hto) (name_ascii h.tg)) hin, .inr ?_⟩
    rcases hhead.2 with ⟨e1, e2⟩ | ⟨x, q, e1, e2, e3⟩
    · rw [e1, e2, hab]
      exact ⟨a, _, rfl, h48, h79⟩
    · rw [e1]
      exact ⟨x, _, rfl, e2, e3⟩

theorem hit_eq {p : Pos} (hm : MayP p) {m : Mv} (h : Pseu p m) (s : List UInt8) : progHit p s m = wordHit p (putL s 10) m := by
  obtain ⟨hA, hk⟩ := plain_facts hm h
  have hE := end_ascii p m
  have hAE := ascii_app hA hE
  rw [Bool.eq_iff_iff]
  unfold progHit wordHit
  simp only [Bool.or_eq_true, Bool.and_eq_true, beq_iff_eq]
  rw [show progW s = mapD pieceF (progIn s) from rfl, map_put hA, map_put hAE]
  unfold progIn
  by_cases hz : s.take 3 = [48, 45, 48] ∧ 79 ∉ s
  · rw [if_pos hz]
    obtain ⟨r, hr⟩ : ∃ r, s = 48 :: r := by
      cases s with
      | nil => simp at hz
      | cons c r => have := hz.1; simp at this; exact ⟨r, by rw [this.1]⟩
    obtain ⟨q1, hq1⟩ := put_head (c := 79) (r := r.map zo) (by decide)
    obtain ⟨q2, hq2⟩ := put_head (c := 48) (r := r) (by decide)
    rcases hk with hk | ⟨a, q, e1, e2, e3⟩
    · have hw : plainL p m ∈ castW ∧ plainL p m ++ endL p m ∈ castW ∧ (plainL p m).headD 0 = 79 := by
        simp only [List.mem_cons, List.not_mem_nil, or_false] at hk
        rcases hk with e | e <;> rw [e] <;> rcases endL_cases p m with e2 | e2 | e2 <;> rw [e2] <;> decide
      have key : ∀ T ∈ castW, (putL (s.map zo) 10 = T ↔ putL s 10 = zeroL T) ∧ ¬ putL s 10 = T := by
        intro T hT
        obtain ⟨f1, f2, f3, f4, f5, f6, _, _, q, f7⟩ := castW_facts T hT
        constructor
        · rw [put_plain f1 f2, f5, put_plain f3 f4]
          constructor
          · intro h
            rw [← h, List.map_map]
            refine (List.map_id s).symm.trans (List.map_congr_left fun x hx => ?_)
            have hx2 : x ≠ 79 := by rintro rfl; exact hz.2 hx
            show x = oz (zo x)
            unfold oz zo
            by_cases h48 : x = 48
            · rw [if_pos h48, if_pos rfl, h48]
            · rw [if_neg h48, if_neg hx2]
          · intro h; rw [h]; exact f6
        · rw [hr, hq2, f7]
          intro h; injection h with h _; exact absurd h (by decide)
      obtain ⟨k1, n1⟩ := key _ hw.1
      obtain ⟨k2, n2⟩ := key _ hw.2.1
      rw [k1, k2]
      constructor
      · intro h; exact .inr ⟨hw.2.2, h⟩
      · rintro ((h | h) | h)
        · exact absurd h n1
        · exact absurd h n2
        · exact h.2
    · rw [e1]
      constructor
      · rintro (h | h)
        · rw [hr] at h
          have : putL (79 :: r.map zo) 10 = a :: q := h
          rw [hq1] at this
          injection this with h1 _
          exact absurd h1.symm e3
        · rw [hr] at h
          have : putL (79 :: r.map zo) 10 = a :: (q ++ endL p m) := h
          rw [hq1] at this
          injection this with h1 _
          exact absurd h1.symm e3
      · rintro ((h | h) | h)
        · rw [hr, hq2] at h
          injection h with h1 _
          exact absurd h1.symm e2
        · rw [hr, hq2] at h
          injection h with h1 _
          exact absurd h1.symm e2
        · exact absurd h.1 e3
  · rw [if_neg hz]
    constructor
    · exact .inl
    · rintro (h | ⟨h1, h2⟩)
      · exact h
      · exfalso
        rcases hk with hk | ⟨a, q, e1, e2, e3⟩
        · have hw : plainL p m ∈ castW ∧ plainL p m ++ endL p m ∈ castW := by
            simp only [List.mem_cons, List.not_mem_nil, or_false] at hk
            rcases hk with e | e <;> rw [e] <;> rcases endL_cases p m with e2 | e2 | e2 <;> rw [e2] <;> decide
          have key : ∀ T ∈ castW, putL s 10 = zeroL T → False := by
            intro T hT he
            obtain ⟨f1, f2, f3, f4, f5, f6, f8, f9, q, f7⟩ := castW_facts T hT
            rw [f5, put_plain f3 f4] at he
            rw [he] at hz
            exact hz ⟨f8, f9⟩
          rcases h2 with h2 | h2
          · exact key _ hw.1 h2
          · exact key _ hw.2 h2
        · rw [e1] at h1
          exact e3 h1

theorem find_congr {α : Type} {f g : α → Bool} : ∀ (l : List α), (∀ x, x ∈ l → f x = g x) → l.find? f = l.find? g
  | [], _ => rfl
  | a :: l, h => by
    rw [List.find?_cons, List.find?_cons, h a (by simp), find_congr l (fun x hx => h x (by simp [hx]))]

/-- What the program reads of a word is what the reference reads of it. -/
theorem parse_eq {p : Pos} (hm : MayP p) (s : List UInt8) : progParse p s = parseL p s :=
  find_congr _ fun m hmem => hit_eq hm ((mem_movesR.1 hmem).1) s

end Go.Proofs.YthffhhbbhjcdeaaGreatDoor
namespace Go.Proofs.YthffhhbbhjcdeaaGreatDoor

theorem index_cons (c : UInt8) (r : List UInt8) (h : c ≠ 48) : Lib.index (c :: r) [48] = if Lib.index r [48] == -1 then -1 else Lib.index r [48] + 1 := by
  rw [Lib.index, if_neg (by simp [List.isPrefixOf, Ne.symm h])]
theorem repK : ∀ s : List UInt8, Lib.replaceK [48] [79] (Lib.count s [48]) s = s.map zo
  | [] => rfl
  | c :: r => by
    by_cases h : c = 48
    · subst h
      have i0 : Lib.index (48 :: r) [48] = (0 : Nat) := by rw [Lib.index, if_pos (by simp [List.isPrefixOf])]; rfl
      rw [Lib.count_hit (by simp) i0, Nat.add_comm, Lib.replaceK_hit _ _ _ _ 0 i0]
      have := repK r
      simp [this, zo]
    · have hc := index_cons c r h
      have hz : zo c = c := by unfold zo; rw [if_neg h]
      by_cases hm : Lib.index r [48] = -1
      · rw [hm] at hc
        have ih := repK r
        rw [Lib.count_miss hm] at ih
        rw [Lib.count_miss (by simpa using hc)]
        simp only [Lib.replaceK] at ih ⊢
        rw [List.map_cons, ← ih, hz]
      · have hge := Lib.index_ge r [48]
        obtain ⟨i, hi⟩ : ∃ i : Nat, Lib.index r [48] = i := ⟨(Lib.index r [48]).toNat, by omega⟩
        have hi1 : Lib.index (c :: r) [48] = (i + 1 : Nat) := by
          rw [hc, if_neg (by simpa using hm), hi]; rfl
        have ih := repK r
        rw [Lib.count_hit (by simp) hi, Nat.add_comm, Lib.replaceK_hit _ _ _ _ i hi] at ih
        rw [Lib.count_hit (by simp) hi1, Nat.add_comm, Lib.replaceK_hit _ _ _ _ (i + 1) hi1, List.map_cons, ← ih, hz]
        simp
theorem replace_zo (s : List UInt8) : Lib.replaceAll s [48] [79] = s.map zo := by
  unfold Lib.replaceAll Lib.replace Lib.replaceNum
  rw [if_neg (by decide), if_pos (by left; decide)]
  exact repK s
theorem indexByte_mem (c : UInt8) : ∀ s : List UInt8, (0 ≤ Lib.indexByte s c) ↔ c ∈ s
  | [] => by simp [Lib.indexByte]
  | b :: l => by
    have ih := indexByte_mem c l
    have hge := Lib.indexByte_ge l c
    unfold Lib.indexByte
    by_cases h : b = c
    · subst h; simp
    · rw [if_neg (by simpa using h)]
      by_cases hm : Lib.indexByte l c = -1
      · rw [hm] at ih
        rw [if_pos (by simpa using hm)]
        simp only [List.mem_cons, Ne.symm h, false_or]
        rw [← ih]
      · rw [if_neg (by simpa using hm)]
        simp only [List.mem_cons, Ne.symm h, false_or]
        rw [← ih]
        omega
theorem prefix_take (s : List UInt8) : Lib.hasPrefix s [48, 45, 48] = decide (s.take 3 = [48, 45, 48]) := by
  unfold Lib.hasPrefix
  rw [Bool.eq_iff_iff, List.isPrefixOf_iff_prefix, List.prefix_iff_eq_take, decide_eq_true_eq]
  exact ⟨fun h => h.symm, fun h => h.symm⟩
theorem progIn_eq (s : List UInt8) : progIn s = if (Lib.hasPrefix s [48, 45, 48] && !decide (0 ≤ Lib.indexByte s 79)) = true then Lib.replaceAll s [48] [79] else s := by
  unfold progIn
  rw [replace_zo, prefix_take]
  have := indexByte_mem 79 s
  by_cases h : s.take 3 = [48, 45, 48] ∧ 79 ∉ s
  · have h2 : ¬ 0 ≤ Lib.indexByte s 79 := fun hh => h.2 (this.1 hh)
    rw [if_pos h, if_pos (by rw [h.1, decide_eq_false h2]; rfl)]
  · rw [if_neg h, if_neg (by intro hc; simp only [Bool.and_eq_true, decide_eq_true_eq, Bool.not_eq_true', decide_eq_false_iff_not] at hc; exact h ⟨hc.1, fun hm => hc.2 (this.2 hm)⟩)]

theorem eq_prefix (t a b : List UInt8) : (t == a || (Lib.hasPrefix t a && t == a ++ b)) = (t == a || t == a ++ b) := by
  cases h : t == a ++ b
  · simp
  · have : t = a ++ b := beq_iff_eq.1 h
    subst this
    have : Lib.hasPrefix (a ++ b) a = true := by unfold Lib.hasPrefix; rw [List.isPrefixOf_iff_prefix]; exact List.prefix_append _ _
    rw [this]
    simp

end Go.Proofs.YthffhhbbhjcdeaaGreatDoor
