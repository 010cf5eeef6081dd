/- PLAIN LEAN, NO PROGRAM: the places that a piece reaches, as the program finds them, are those that it attacks. PLAIN LEAN, NO PROGRAM: what a piece reaches is what it attacks. -/
import Derived.Test.YthffhhbbhjcdeaaGreatDoorB
set_option linter.unusedVariables false
set_option linter.unusedSimpArgs false
namespace Go.Proofs.YthffhhbbhjcdeaaGreatDoor

/-- A place moved by a step; -1: it is off the board. -/
def movedI (fr : Nat) (x y : Int) : Int :=
  if (fr : Int) % 8 + x < 0 ∨ 7 < (fr : Int) % 8 + x ∨ (fr : Int) / 8 + y < 0 ∨ 7 < (fr : Int) / 8 + y then -1 else 8 * ((fr : Int) / 8 + y) + ((fr : Int) % 8 + x)

def slantS : List (Int × Int) := [(1, 1), (1, -1), (-1, 1), (-1, -1)]
def straightS : List (Int × Int) := [(1, 0), (-1, 0), (0, 1), (0, -1)]
def leapS : List (Int × Int) := [(1, 2), (2, 1), (2, -1), (1, -2), (-1, -2), (-2, -1), (-2, 1), (-1, 2)]
/-- The steps of a kind. -/
def stepsL (k : Int) : List (Int × Int) := if k = 2 then leapS else if k = 3 then slantS else if k = 4 then straightS else slantS ++ straightS

/-- The places on a way, as far as it is free. -/
def rayL (L : Nat → Int) (one : Bool) (sx sy : Int) : Nat → Int → List Nat
  | 0, _ => []
  | f + 1, tg => if tg < 0 then [] else tg.toNat :: (if L tg.toNat ≠ 0 ∨ one = true then [] else rayL L one sx sy f (movedI tg.toNat sx sy))
def oneB (k : Int) : Bool := k == 2 || k == 6
def fwdI (x : Int) : Int := if 0 < x then 1 else if x < 0 then -1 else 3
def pawnL (fr : Nat) (x : Int) (d : Int) : List Nat := if movedI fr d (fwdI x) < 0 then [] else [(movedI fr d (fwdI x)).toNat]
/-- The places that a piece reaches, in order. -/
def reachL (L : Nat → Int) (fr : Nat) : List Nat :=
  if sizeI (L fr) = 0 then [] else if sizeI (L fr) = 1 then pawnL fr (L fr) (-1) ++ pawnL fr (L fr) 1
  else (stepsL (sizeI (L fr))).flatMap fun s => rayL L (oneB (sizeI (L fr))) s.1 s.2 8 (movedI fr s.1 s.2)

/-- .. of an empty board. -/
def ray0 (one : Bool) (sx sy : Int) : Nat → Int → List Nat
  | 0, _ => []
  | f + 1, tg => if tg < 0 then [] else tg.toNat :: (if one = true then [] else ray0 one sx sy f (movedI tg.toNat sx sy))
def cutL (L : Nat → Int) : List Nat → List Nat
  | [] => []
  | a :: r => a :: (if L a ≠ 0 then [] else cutL L r)
theorem rayL_cut (L : Nat → Int) (one : Bool) (sx sy : Int) : ∀ f tg, rayL L one sx sy f tg = cutL L (ray0 one sx sy f tg)
  | 0, _ => rfl
  | f + 1, tg => by
    unfold rayL ray0
    by_cases h : tg < 0
    · simp [h, cutL]
    · simp only [h, if_false, cutL]
      cases one
      · by_cases h2 : L tg.toNat ≠ 0
        · simp [h2]
        · simp only [h2, false_or, if_false, Bool.false_eq_true]; rw [rayL_cut]
      · simp [cutL]
theorem cutL_sub (L : Nat → Int) : ∀ l, List.Sublist (cutL L l) l
  | [] => List.Sublist.refl _
  | a :: r => by
    unfold cutL
    refine List.Sublist.cons_cons a ?_
    split
    · exact List.nil_sublist _
    · exact cutL_sub L r
theorem mem_cutL (L : Nat → Int) (tg : Nat) : ∀ l, l.Nodup → (tg ∈ cutL L l ↔ tg ∈ l ∧ ∀ a, a ∈ l.takeWhile (· != tg) → L a = 0)
  | [], _ => by simp [cutL]
  | a :: r, hd => by
    have ih := mem_cutL L tg r (List.nodup_cons.1 hd).2
    unfold cutL
    by_cases hat : a = tg
    · subst hat; simp
    · have hta : tg ≠ a := fun h => hat h.symm
      by_cases h0 : L a = 0
      · simp [hat, hta, h0, ih]
      · simp [hat, hta, h0]

/-- What the way from a place by a step of an empty board must be. -/
def rayFact (fr : Nat) (s : Int × Int) : Bool :=
  let l := ray0 false s.1 s.2 8 (movedI fr s.1 s.2)
  l.Nodup && (List.range 64).all fun tg =>
    let on := (dxI fr tg != 0 || dyI fr tg != 0) && (slantB fr tg || straightB fr tg) && (sgnI (dxI fr tg) == s.1) && (sgnI (dyI fr tg) == s.2)
    (l.contains tg == on) && (!on || (l.takeWhile (· != tg) == ((List.range (farI fr tg)).drop 1).map (onWay fr tg)))
theorem rayFact_all : ∀ fr < 64, ∀ s ∈ slantS ++ straightS, rayFact fr s = true := by decide +kernel

def leapFact (fr : Nat) : Bool :=
  let l := leapS.flatMap fun s => ray0 true s.1 s.2 8 (movedI fr s.1 s.2)
  let k := (slantS ++ straightS).flatMap fun s => ray0 true s.1 s.2 8 (movedI fr s.1 s.2)
  let r := (slantS ++ straightS).flatMap fun s => ray0 false s.1 s.2 8 (movedI fr s.1 s.2)
  l.Nodup && k.Nodup && r.Nodup && l.all (· < 64) && k.all (· < 64) && r.all (· < 64) && (List.range 64).all fun tg =>
    (l.contains tg == (sizeI (dxI fr tg * dyI fr tg) == 2)) && (k.contains tg == (!(dxI fr tg == 0 && dyI fr tg == 0) && decide (sizeI (dxI fr tg) ≤ 1) && decide (sizeI (dyI fr tg) ≤ 1)))
    && ((pawnL fr 1 (-1) ++ pawnL fr 1 1).contains tg == (sizeI (dxI fr tg) == 1 && dyI fr tg == 1))
    && ((pawnL fr (-1) (-1) ++ pawnL fr (-1) 1).contains tg == (sizeI (dxI fr tg) == 1 && dyI fr tg == -1))
    && (pawnL fr 1 (-1) ++ pawnL fr 1 1).Nodup && (pawnL fr (-1) (-1) ++ pawnL fr (-1) 1).Nodup
    && (pawnL fr 1 (-1) ++ pawnL fr 1 1).all (· < 64) && (pawnL fr (-1) (-1) ++ pawnL fr (-1) 1).all (· < 64)
theorem leapFact_all : ∀ fr < 64, leapFact fr = true := by decide +kernel

end Go.Proofs.YthffhhbbhjcdeaaGreatDoor
namespace Go.Proofs.YthffhhbbhjcdeaaGreatDoor

theorem sizeI_cases {x : Int} (h0 : -6 ≤ x) (h1 : x ≤ 6) : sizeI x = 0 ∨ sizeI x = 1 ∨ sizeI x = 2 ∨ sizeI x = 3 ∨ sizeI x = 4 ∨ sizeI x = 5 ∨ sizeI x = 6 := by unfold sizeI; split <;> omega
theorem sizeI_zero {x : Int} : sizeI x = 0 ↔ x = 0 := by unfold sizeI; split <;> omega

theorem leap_parts {fr : Nat} (hf : fr < 64) :
    (leapS.flatMap fun s => ray0 true s.1 s.2 8 (movedI fr s.1 s.2)).Nodup ∧ ((slantS ++ straightS).flatMap fun s => ray0 true s.1 s.2 8 (movedI fr s.1 s.2)).Nodup ∧ ((slantS ++ straightS).flatMap fun s => ray0 false s.1 s.2 8 (movedI fr s.1 s.2)).Nodup ∧
    (∀ a, a ∈ leapS.flatMap (fun s => ray0 true s.1 s.2 8 (movedI fr s.1 s.2)) → a < 64) ∧ (∀ a, a ∈ (slantS ++ straightS).flatMap (fun s => ray0 true s.1 s.2 8 (movedI fr s.1 s.2)) → a < 64) ∧ (∀ a, a ∈ (slantS ++ straightS).flatMap (fun s => ray0 false s.1 s.2 8 (movedI fr s.1 s.2)) → a < 64) := by
  have h := leapFact_all fr hf
  simp only [leapFact, Bool.and_eq_true, List.all_eq_true, decide_eq_true_eq, List.mem_range] at h
  obtain ⟨⟨⟨⟨⟨⟨h1, h2⟩, h3⟩, h4⟩, h5⟩, h6⟩, _⟩ := h
  exact ⟨h1, h2, h3, h4, h5, h6⟩
theorem leap_at {fr tg : Nat} (hf : fr < 64) (ht : tg < 64) :
    (tg ∈ leapS.flatMap (fun s => ray0 true s.1 s.2 8 (movedI fr s.1 s.2)) ↔ (sizeI (dxI fr tg * dyI fr tg) == 2) = true) ∧
    (tg ∈ (slantS ++ straightS).flatMap (fun s => ray0 true s.1 s.2 8 (movedI fr s.1 s.2)) ↔ (!(dxI fr tg == 0 && dyI fr tg == 0) && decide (sizeI (dxI fr tg) ≤ 1) && decide (sizeI (dyI fr tg) ≤ 1)) = true) ∧
    (tg ∈ pawnL fr 1 (-1) ++ pawnL fr 1 1 ↔ (sizeI (dxI fr tg) == 1 && dyI fr tg == 1) = true) ∧ (tg ∈ pawnL fr (-1) (-1) ++ pawnL fr (-1) 1 ↔ (sizeI (dxI fr tg) == 1 && dyI fr tg == -1) = true) ∧
    (pawnL fr 1 (-1) ++ pawnL fr 1 1).Nodup ∧ (pawnL fr (-1) (-1) ++ pawnL fr (-1) 1).Nodup ∧ (∀ a, a ∈ pawnL fr 1 (-1) ++ pawnL fr 1 1 → a < 64) ∧ (∀ a, a ∈ pawnL fr (-1) (-1) ++ pawnL fr (-1) 1 → a < 64) := by
  have h := leapFact_all fr hf
  simp only [leapFact, Bool.and_eq_true, List.all_eq_true, decide_eq_true_eq, List.mem_range] at h
  obtain ⟨_, h⟩ := h
  have h := h tg ht
  obtain ⟨⟨⟨⟨⟨⟨⟨h1, h2⟩, h3⟩, h4⟩, h5⟩, h6⟩, h7⟩, h8⟩ := h
  refine ⟨?_, ?_, ?_, ?_, h5, h6, h7, h8⟩
  · rw [← List.contains_iff_mem, eq_of_beq h1]
  · rw [← List.contains_iff_mem, eq_of_beq h2]
  · rw [← List.contains_iff_mem, eq_of_beq h3]
  · rw [← List.contains_iff_mem, eq_of_beq h4]

theorem sub_flatMap {α β : Type} {f g : α → List β} : ∀ (l : List α), (∀ a, a ∈ l → List.Sublist (f a) (g a)) → List.Sublist (l.flatMap f) (l.flatMap g)
  | [], _ => List.Sublist.refl _
  | a :: l, h => by
    simp only [List.flatMap_cons]
    exact List.Sublist.append (h a (by simp)) (sub_flatMap l (fun b hb => h b (by simp [hb])))

theorem rays_sub (L : Nat → Int) (one : Bool) (fr : Nat) (l : List (Int × Int)) : List.Sublist (l.flatMap fun s => rayL L one s.1 s.2 8 (movedI fr s.1 s.2)) (l.flatMap fun s => ray0 one s.1 s.2 8 (movedI fr s.1 s.2)) :=
  sub_flatMap l fun s _ => by rw [rayL_cut]; exact cutL_sub L _

theorem pawn_one {fr : Nat} {x : Int} (h : sizeI x = 1) : x = 1 ∨ x = -1 := by unfold sizeI at h; split at h <;> omega
theorem sub_steps {k : Int} (h : k ≠ 2) (fr : Nat) (one : Bool) :
    List.Sublist ((stepsL k).flatMap fun s => ray0 one s.1 s.2 8 (movedI fr s.1 s.2)) ((slantS ++ straightS).flatMap fun s => ray0 one s.1 s.2 8 (movedI fr s.1 s.2)) := by
  unfold stepsL
  rw [if_neg h]
  split
  · rw [List.flatMap_append]; exact List.sublist_append_left _ _
  · split
    · rw [List.flatMap_append]; exact List.sublist_append_right _ _
    · exact List.Sublist.refl _

theorem reach_nodup {L : Nat → Int} {fr : Nat} (hf : fr < 64) : (reachL L fr).Nodup := by
  obtain ⟨h1, h2, h3, h4, h5, h6⟩ := leap_parts hf
  obtain ⟨_, _, _, _, h5, h6, _, _⟩ := leap_at hf (show 0 < 64 by omega)
  unfold reachL
  split
  · exact List.nodup_nil
  · split
    · rename_i h
      rcases pawn_one (fr := fr) h with h | h <;> rw [h]
      · exact h5
      · exact h6
    · refine (rays_sub L _ fr _).nodup ?_
      by_cases hk : sizeI (L fr) = 2
      · rw [hk]; exact h1
      · by_cases hk6 : oneB (sizeI (L fr)) = true
        · rw [hk6]; exact (sub_steps hk fr _).nodup h2
        · rw [show oneB (sizeI (L fr)) = false by simpa using hk6]; exact (sub_steps hk fr _).nodup h3

theorem reach_lt {L : Nat → Int} {fr tg : Nat} (hf : fr < 64) (h : tg ∈ reachL L fr) : tg < 64 := by
  obtain ⟨_, _, _, h4, h5, h6⟩ := leap_parts hf
  obtain ⟨_, _, _, _, _, _, h7, h8⟩ := leap_at hf (show 0 < 64 by omega)
  unfold reachL at h
  split at h
  · simp at h
  · split at h
    · rename_i hx
      rcases pawn_one (fr := fr) hx with hx | hx <;> rw [hx] at h
      · exact h7 _ h
      · exact h8 _ h
    · have h := (rays_sub L _ fr _).subset h
      by_cases hk : sizeI (L fr) = 2
      · rw [hk] at h; exact h4 _ h
      · by_cases hk6 : oneB (sizeI (L fr)) = true
        · rw [hk6] at h; exact h5 _ ((sub_steps hk fr _).subset h)
        · rw [show oneB (sizeI (L fr)) = false by simpa using hk6] at h; exact h6 _ ((sub_steps hk fr _).subset h)

theorem cut_true (L : Nat → Int) (sx sy : Int) (tg : Int) : cutL L (ray0 true sx sy 8 tg) = ray0 true sx sy 8 tg := by
  unfold ray0
  split
  · rfl
  · simp [cutL]

/-- The way by one step. -/
theorem mem_ray {L : Nat → Int} {fr tg : Nat} {s : Int × Int} (hf : fr < 64) (ht : tg < 64) (hs : s ∈ slantS ++ straightS) :
    tg ∈ rayL L false s.1 s.2 8 (movedI fr s.1 s.2) ↔
      ((dxI fr tg != 0 || dyI fr tg != 0) && (slantB fr tg || straightB fr tg) && (sgnI (dxI fr tg) == s.1) && (sgnI (dyI fr tg) == s.2)) = true ∧ freeWay L fr tg = true := by
  have h := rayFact_all fr hf s hs
  simp only [rayFact, Bool.and_eq_true, decide_eq_true_eq, List.all_eq_true, List.mem_range] at h
  obtain ⟨hd, h⟩ := h
  obtain ⟨h1, h2⟩ := h tg ht
  rw [rayL_cut, mem_cutL L tg _ hd, ← List.contains_iff_mem, eq_of_beq h1]
  clear h1
  simp only [← Bool.and_eq_true]
  generalize ((dxI fr tg != 0 || dyI fr tg != 0) && (slantB fr tg || straightB fr tg) && (sgnI (dxI fr tg) == s.1) && (sgnI (dyI fr tg) == s.2)) = on at *
  cases on
  · simp
  · simp only [Bool.not_true, Bool.false_or] at h2
    rw [eq_of_beq h2]
    simp only [true_and]
    unfold freeWay
    simp only [List.all_eq_true, List.mem_range, Bool.or_eq_true, beq_iff_eq, List.mem_map, forall_exists_index, and_imp]
    simp
    constructor
    · intro h i hi
      by_cases h0 : i = 0
      · exact .inl h0
      · exact .inr (h _ i (by omega) (by omega) rfl)
    · rintro h a x h1 h2 rfl
      rcases h x (by omega) with h | h
      · omega
      · exact h

theorem sgn_cases (x : Int) : sgnI x = 0 ∧ x = 0 ∨ sgnI x = 1 ∧ 0 < x ∨ sgnI x = -1 ∧ x < 0 := by unfold sgnI; split <;> (try split) <;> omega

theorem attacks_eq {L : Nat → Int} {fr tg : Nat} {k : Int} (hk : sizeI (L fr) = k) : attacksB L fr tg =
    if dxI fr tg = 0 ∧ dyI fr tg = 0 then false
    else if k = 1 then sizeI (dxI fr tg) == 1 && dyI fr tg == L fr
    else if k = 2 then sizeI (dxI fr tg * dyI fr tg) == 2
    else if k = 6 then decide (sizeI (dxI fr tg) ≤ 1) && decide (sizeI (dyI fr tg) ≤ 1)
    else if k = 0 ∨ (slantB fr tg = false ∧ straightB fr tg = false) ∨ (k = 3 ∧ slantB fr tg = false) ∨ (k = 4 ∧ straightB fr tg = false) then false
    else freeWay L fr tg := by
  unfold attacksB
  dsimp only
  have e : L fr = 0 ↔ k = 0 := by rw [← hk]; exact sizeI_zero.symm
  simp only [hk, e]
theorem slant_on {fr tg : Nat} : (sgnI (dxI fr tg), sgnI (dyI fr tg)) ∈ slantS ↔ ¬ dxI fr tg = 0 ∧ ¬ dyI fr tg = 0 := by
  rcases sgn_cases (dxI fr tg) with ⟨a, b⟩ | ⟨a, b⟩ | ⟨a, b⟩ <;> rcases sgn_cases (dyI fr tg) with ⟨c, d⟩ | ⟨c, d⟩ | ⟨c, d⟩ <;> rw [a, c] <;> simp [slantS] <;> omega
theorem straight_on {fr tg : Nat} : (sgnI (dxI fr tg), sgnI (dyI fr tg)) ∈ straightS ↔ (dxI fr tg = 0 ∧ ¬ dyI fr tg = 0) ∨ (¬ dxI fr tg = 0 ∧ dyI fr tg = 0) := by
  rcases sgn_cases (dxI fr tg) with ⟨a, b⟩ | ⟨a, b⟩ | ⟨a, b⟩ <;> rcases sgn_cases (dyI fr tg) with ⟨c, d⟩ | ⟨c, d⟩ | ⟨c, d⟩ <;> rw [a, c] <;> simp [straightS] <;> omega
theorem slant_zero {fr tg : Nat} (h : slantB fr tg = true) : (dxI fr tg = 0 ↔ dyI fr tg = 0) := by
  unfold slantB at h
  have h := eq_of_beq h
  rw [← sizeI_zero (x := dxI fr tg), ← sizeI_zero (x := dyI fr tg), h]
theorem straight_iff {fr tg : Nat} : straightB fr tg = true ↔ dxI fr tg = 0 ∨ dyI fr tg = 0 := by simp [straightB]

/-- What a piece reaches is what it attacks. -/
theorem mem_reach {L : Nat → Int} {fr tg : Nat} (hf : fr < 64) (ht : tg < 64) (h0 : -6 ≤ L fr) (h1 : L fr ≤ 6) : tg ∈ reachL L fr ↔ attacksB L fr tg = true := by
  obtain ⟨l1, l2, l3, l4, _, _, _, _⟩ := leap_at hf ht
  have hslide : ∀ k, sizeI (L fr) = k → (k = 3 ∨ k = 4 ∨ k = 5) → (tg ∈ reachL L fr ↔ ∃ s, s ∈ stepsL k ∧ tg ∈ rayL L false s.1 s.2 8 (movedI fr s.1 s.2)) := by
    intro k hk h3
    unfold reachL
    rw [hk, if_neg (by omega), if_neg (by omega), List.mem_flatMap, show oneB k = false by rcases h3 with rfl | rfl | rfl <;> rfl]
  have hsub : ∀ k s, (k = 3 ∨ k = 4 ∨ k = 5) → s ∈ stepsL k → s ∈ slantS ++ straightS := by
    intro k s h3 hs
    rcases h3 with rfl | rfl | rfl
    · exact List.mem_append_left _ hs
    · exact List.mem_append_right _ hs
    · exact hs
  have hmem : ∀ k, sizeI (L fr) = k → (k = 3 ∨ k = 4 ∨ k = 5) → (tg ∈ reachL L fr ↔ ((dxI fr tg != 0 || dyI fr tg != 0) && (slantB fr tg || straightB fr tg)) = true ∧ (sgnI (dxI fr tg), sgnI (dyI fr tg)) ∈ stepsL k ∧ freeWay L fr tg = true) := by
    intro k hk h3
    rw [hslide k hk h3]
    constructor
    · rintro ⟨s, hs, h⟩
      rw [mem_ray hf ht (hsub k s h3 hs)] at h
      simp only [Bool.and_eq_true, beq_iff_eq] at h
      obtain ⟨⟨⟨⟨h4, h5⟩, h6⟩, h7⟩, h8⟩ := h
      refine ⟨by simp only [Bool.and_eq_true]; exact ⟨h4, h5⟩, ?_, h8⟩
      rw [h6, h7]; exact hs
    · rintro ⟨h4, hs, h8⟩
      refine ⟨_, hs, (mem_ray hf ht (hsub k _ h3 hs)).2 ⟨?_, h8⟩⟩
      simp only [Bool.and_eq_true, beq_iff_eq] at h4 ⊢
      exact ⟨⟨h4, trivial⟩, trivial⟩
  rcases sizeI_cases h0 h1 with hk | hk | hk | hk | hk | hk | hk
  · rw [attacks_eq hk]
    simp [reachL, hk]
  · have hp := pawn_one (fr := fr) hk
    have hne : sizeI (L fr) ≠ 0 := by omega
    rw [attacks_eq hk]
    unfold reachL
    rw [if_neg hne, if_pos hk]
    rcases hp with hp | hp
    · rw [hp, l3]
      by_cases hA : dxI fr tg = 0 ∧ dyI fr tg = 0
      · simp [hA]
      · simp [hA]
    · rw [hp, l4]
      by_cases hA : dxI fr tg = 0 ∧ dyI fr tg = 0
      · simp [hA]
      · simp [hA]
  · rw [attacks_eq hk]
    unfold reachL
    rw [hk, if_neg (by omega), if_neg (by omega)]
    simp only [rayL_cut, show oneB 2 = true from rfl, cut_true, show stepsL 2 = leapS from rfl]
    rw [l1]
    by_cases hA : dxI fr tg = 0 ∧ dyI fr tg = 0
    · simp [hA, sizeI]
    · simp [hA]
  · rw [hmem 3 hk (by omega), attacks_eq hk]
    rw [show stepsL 3 = slantS from rfl, slant_on]
    cases hs : slantB fr tg
    · have hx : straightB fr tg = true → (dxI fr tg = 0 ∨ dyI fr tg = 0) := straight_iff.1
      by_cases hA : dxI fr tg = 0 ∧ dyI fr tg = 0
      · simp [hA]
      · simp [hA]
        intro h1 h2 h3 h4
        rcases hx h2 with h | h
        · exact absurd h h3
        · exact absurd h h4
    · have hz := slant_zero hs
      by_cases hA : dxI fr tg = 0 ∧ dyI fr tg = 0
      · simp [hA]
      · simp [hA]
        by_cases hx : dxI fr tg = 0
        · exact absurd ⟨hx, hz.1 hx⟩ hA
        · have hy : ¬ dyI fr tg = 0 := fun h => hx (hz.2 h)
          simp [hx, hy]
  · rw [hmem 4 hk (by omega), attacks_eq hk]
    rw [show stepsL 4 = straightS from rfl, straight_on]
    cases hs : straightB fr tg
    · have hx : ¬ (dxI fr tg = 0 ∨ dyI fr tg = 0) := fun h => by rw [straight_iff.2 h] at hs; cases hs
      by_cases hA : dxI fr tg = 0 ∧ dyI fr tg = 0
      · exact absurd (.inl hA.1) hx
      · simp [hA]
        intro _ _ h
        rcases h with h | h
        · exact absurd (.inl h.1) hx
        · exact absurd (.inr h.2) hx
    · have hx := straight_iff.1 hs
      by_cases hA : dxI fr tg = 0 ∧ dyI fr tg = 0
      · simp [hA]
      · simp [hA]
        by_cases h1 : dxI fr tg = 0
        · have h2 : ¬ dyI fr tg = 0 := fun h => hA ⟨h1, h⟩
          simp [h1, h2]
        · have h2 : dyI fr tg = 0 := hx.resolve_left h1
          simp [h1, h2]
  · rw [hmem 5 hk (by omega), attacks_eq hk]
    rw [show stepsL 5 = slantS ++ straightS from rfl, List.mem_append, slant_on, straight_on]
    by_cases hA : dxI fr tg = 0 ∧ dyI fr tg = 0
    · simp [hA]
    · by_cases h1 : dxI fr tg = 0 <;> by_cases h2 : dyI fr tg = 0 <;> cases slantB fr tg <;> cases straightB fr tg <;> simp_all
  · rw [attacks_eq hk]
    unfold reachL
    rw [hk, if_neg (by omega), if_neg (by omega)]
    simp only [rayL_cut, show oneB 6 = true from rfl, cut_true, show stepsL 6 = slantS ++ straightS from rfl]
    rw [l2]
    by_cases hA : dxI fr tg = 0 ∧ dyI fr tg = 0
    · simp [hA]
    · have : (dxI fr tg == 0 && dyI fr tg == 0) = false := by simpa using hA
      rw [this]
      simp [hA]

end Go.Proofs.YthffhhbbhjcdeaaGreatDoor
