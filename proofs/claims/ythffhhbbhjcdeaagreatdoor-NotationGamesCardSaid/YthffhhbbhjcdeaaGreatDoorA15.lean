/- WALKS: the reference's ChessMay. -/
import Derived.Test.YthffhhbbhjcdeaaGreatDoorA8
import Derived.Test.YthffhhbbhjcdeaaGreatDoorA2
import Derived.StillTailTactics
import Derived.BigQuiet
import Derived.Deep.CutBlock
set_option linter.unusedVariables false
set_option linter.unusedSimpArgs false
namespace Go.Proofs.YthffhhbbhjcdeaaGreatDoor
open Go.RowKit
set_option maxRecDepth 100000

def inR (x a b : Int) : Bool := decide (a ≤ x) && decide (x ≤ b)
def mayHead (n : Nat) (p : Pos) : Bool := (n == 64) && inR p.turn 0 1 && inR p.castle 0 15 && inR p.half 0 999 && inR p.full 1 999
def spotB (L : Nat → Int) (i : Nat) : Bool := inR (L i) (-6) 6 && !((sizeI (L i) == 1) && (decide (i < 8) || decide (55 < i)))
def spotsB (L : Nat → Int) (k : Nat) : Bool := (List.range k).all (spotB L)
def countL (L : Nat → Int) (x : Int) (k : Nat) : Nat := ((List.range k).filter fun i => L i == x).length
def homeN (n : Nat) : Nat := if n / 2 = 0 then 4 else 60
def tourN (n : Nat) : Nat := if n = 0 then 7 else if n = 1 then 0 else if n = 2 then 63 else 56
def hueN (n : Nat) : Int := if n / 2 = 0 then 1 else -1
def rightB (p : Pos) (n : Nat) : Bool := (p.castle / 2 ^ n % 2 == 1) && ((p.L (homeN n) != hueN n * 6) || (p.L (tourN n) != hueN n * 4))
def rightsB (p : Pos) (k : Nat) : Bool := (List.range k).all fun n => !rightB p n
def mayEp (p : Pos) : Bool := (p.ep == -1) || (if p.turn == 0 then inR p.ep 40 47 && (p.L p.ep.toNat == 0) && (p.L (p.ep.toNat - 8) == -1) && (p.L (p.ep.toNat + 8) == 0)
  else inR p.ep 16 23 && (p.L p.ep.toNat == 0) && (p.L (p.ep.toNat + 8) == 1) && (p.L (p.ep.toNat - 8) == 0))
/-- P15.1. -/
def mayB (n : Nat) (p : Pos) : Bool := mayHead n p && spotsB p.L 64 && ((countL p.L 6 64 == 1) && (countL p.L (-6) 64 == 1) && !inCheckB p.L (1 - p.turn)) && rightsB p 4 && mayEp p

theorem within_inR (a b c : Int) (w : World) : Calls Tryz.prog 25 #[.int .i64 a, .int .i64 b, .int .i64 c] w (RetW (.bool (inR a b c)) w) := within_any a b c w

/-- The cells of a board, whatever they hold. -/
structure BrdA (w : World) (b off : Nat) (L : Nat → Int) : Prop where
  lt : b < w.heap.size
  cell : ∀ i, i < 64 → w.cell? ⟨b, off + i, none⟩ = some (.int .i64 (L i))
theorem BrdA.below {w w' : World} {b off B : Nat} {L : Nat → Int} (h : BrdA w b off L) (hb : Below B w w') (hB : b < B) : BrdA w' b off L :=
  ⟨Nat.lt_of_lt_of_le h.lt hb.size, fun i hi => by rw [(bcell hb).1 b _ hB]; exact h.cell i hi⟩
theorem spotsB_succ (L : Nat → Int) (k : Nat) : spotsB L (k + 1) = (spotsB L k && spotB L k) := by simp [spotsB, List.range_succ]
theorem countL_yes {L : Nat → Int} {x : Int} {k : Nat} (h : (L k == x) = true) : countL L x (k + 1) = countL L x k + 1 := by simp [countL, List.range_succ, List.filter_append, h]
theorem countL_no {L : Nat → Int} {x : Int} {k : Nat} (h : (L k == x) = false) : countL L x (k + 1) = countL L x k := by simp [countL, List.range_succ, List.filter_append, h]
theorem rightsB_succ (p : Pos) (k : Nat) : rightsB p (k + 1) = (rightsB p k && !rightB p k) := by simp [rightsB, List.range_succ]
theorem countL_le (L : Nat → Int) (x : Int) (k : Nat) : countL L x k ≤ k := by
  have := List.length_filter_le (fun i => L i == x) (List.range k); simpa [countL] using this
theorem spotsB_bd {L : Nat → Int} (h : spotsB L 64 = true) : ∀ i, i < 64 → -6 ≤ L i ∧ L i ≤ 6 := by
  intro i hi
  have := (List.all_eq_true.1 h) i (by simp; exact hi)
  simp [spotB, inR] at this
  omega

theorem count_has {L : Nat → Int} {x : Int} {n : Nat} (h : 0 < countL L x n) : ∃ k, k < n ∧ L k = x := by
  obtain ⟨k, hk⟩ := List.exists_mem_of_length_pos h
  rw [List.mem_filter] at hk
  exact ⟨k, by simpa using hk.1, by simpa using hk.2⟩

structure CMS (w wx : World) (a : Option Addr) (n cap : Nat) (p : Pos) : Prop where
  kP : Blk wx w.heap.size #[.slice a n cap, .int .i64 p.turn, .int .i64 p.castle, .int .i64 p.ep, .int .i64 p.half, .int .i64 p.full]
  below : Below w.heap.size w wx
theorem CMS.trans {w wx w1 : World} {a : Option Addr} {n cap : Nat} {p : Pos} (h : CMS w wx a n cap p) (hb : Below wx.heap.size wx w1) : CMS w w1 a n cap p :=
  ⟨h.kP.below hb h.kP.lt, h.below.trans (hb.mono h.below.size)⟩
theorem CMS.drewN {w wx : World} {a : Option Addr} {n cap : Nat} {p : Pos} (h : CMS w wx a n cap p) (k : Nat) : CMS w (wx.drewN k) a n cap p := h.trans (below_drewN (Below.refl _ _) k)

set_option maxHeartbeats 4000000 in
theorem chessMay_any (a : Option Addr) (n cap : Nat) (p : Pos) (w : World) (hn : n ≤ 2000000) (hrow : n = 64 → ∃ b off, a = some ⟨b, off, none⟩ ∧ BrdA w b off p.L) (hbd : ∀ i, 64 ≤ i → p.L i = 0) :
    Calls Tryz.prog 8 #[.agg #[.slice a n cap, .int .i64 p.turn, .int .i64 p.castle, .int .i64 p.ep, .int .i64 p.half, .int .i64 p.full]] w (RetB (.bool (mayB n p)) w) := by
  go_enter Tryz.func8, Tryz.ntmps8
  go_upto_region 1 with fail
  generalize hW0 : World.alloc _ _ = W0
  have hS : CMS w W0 a n cap p := by rw [← hW0]; exact ⟨Blk.new w _ _, (Below.refl _ _).alloc (Nat.le_refl _) _⟩
  clear hW0
  go_cut [39] from 12 to 39 (fun s39 wx => s39 = .bool (!mayHead n p) ∧ CMS w wx a n cap p)
  case first =>
    have p0 := hS.kP.cell (o := 0) rfl
    have p1 := hS.kP.cell (o := 1) rfl
    have p2 := hS.kP.cell (o := 2) rfl
    have p4 := hS.kP.cell (o := 4) rfl
    have p5 := hS.kP.cell (o := 5) rfl
    have hh : mayHead n p = ((n == 64) && inR p.turn 0 1 && inR p.castle 0 15 && inR p.half 0 999 && inR p.full 1 999) := rfl
    have Hh := Lib.hid hh
    clear hh
    cases hb0 : ((n : Int) != 64)
    case true =>
      go_wp2
      go_meet
      exact ⟨by rw [Hh.out, show (n == 64) = false by simp at hb0 ⊢; omega]; rfl, hS⟩
    case false =>
      have hn64 : (n == 64) = true := by simp at hb0 ⊢; omega
      have Hn64 := Lib.hid hn64
      clear hn64
      cases hb1 : inR p.turn 0 1
      case false =>
        go_wp2_with (go_at_call 25; refine (within_inR _ _ _ _).mono ?_; rintro e w' ⟨rfl, rfl⟩)
        go_meet
        exact ⟨by rw [Hh.out, Hn64.out]; simp [*], hS⟩
      case true =>
      cases hb2 : inR p.castle 0 15
      case false =>
        go_wp2_with (go_at_call 25; refine (within_inR _ _ _ _).mono ?_; rintro e w' ⟨rfl, rfl⟩)
        go_meet
        exact ⟨by rw [Hh.out, Hn64.out]; simp [*], hS⟩
      case true =>
      cases hb4 : inR p.half 0 999
      case false =>
        go_wp2_with (go_at_call 25; refine (within_inR _ _ _ _).mono ?_; rintro e w' ⟨rfl, rfl⟩)
        go_meet
        exact ⟨by rw [Hh.out, Hn64.out]; simp [*], hS⟩
      case true =>
      cases hb5 : inR p.full 1 999
      all_goals
        go_wp2_with (go_at_call 25; refine (within_inR _ _ _ _).mono ?_; rintro e w' ⟨rfl, rfl⟩)
        go_meet
        exact ⟨by rw [Hh.out, Hn64.out]; simp [*], hS⟩
  case rest =>
  clear hS
  obtain ⟨rfl, hS⟩ := hcut
  cases hmh : mayHead n p
  case false =>
    go_wp2
    go_ret
    exact ⟨by rw [mayB, hmh]; rfl, hS.below⟩
  case true =>
  have hmay : mayB n p = (spotsB p.L 64 && ((countL p.L 6 64 == 1) && (countL p.L (-6) 64 == 1) && !inCheckB p.L (1 - p.turn)) && rightsB p 4 && mayEp p) := by rw [mayB, hmh, Bool.true_and]
  have Hmay := Lib.hid hmay
  clear hmay
  simp [mayHead, inR] at hmh
  obtain ⟨⟨⟨⟨rfl, ht0, ht1⟩, hc0, hc1⟩, _, _⟩, _, _⟩ := hmh
  obtain ⟨b, off, rfl, hB⟩ := hrow rfl
  clear hrow hn
  go_upto_block 0 with fail
  go_cut [3, 4] from 5 to 6 (fun s3 s4 wx => s3 = .int .i64 (countL p.L 6 64) ∧ s4 = .int .i64 (countL p.L (-6) 64) ∧ spotsB p.L 64 = true ∧ CMS w wx (some ⟨b, off, none⟩) 64 cap p)
  case first =>
    go_wp2_with fail
    go_loopg [3, 4, 5] 64 (fun gh s3 s4 s5 wx => ∃ k : Nat, k ≤ 64 ∧ gh = 64 - k ∧ s5 = .int .i64 k ∧ s3 = .int .i64 (countL p.L 6 k) ∧ s4 = .int .i64 (countL p.L (-6) k) ∧ spotsB p.L k = true ∧ CMS w wx (some ⟨b, off, none⟩) 64 cap p)
    case atStart => exact ⟨0, by omega, rfl, rfl, rfl, rfl, rfl, hS⟩
    case round =>
    clear hS
    obtain ⟨k, hk, hg, rfl, rfl, rfl, hsp, hS⟩ := hrel
    have Hg := Lib.hid hg
    have Hsp := Lib.hid hsp
    clear hg hsp
    by_cases hk64 : k = 64
    · subst hk64
      go_wp2
      go_meet
      exact ⟨rfl, rfl, Hsp.out, hS⟩
    have hklt : k < 64 := by omega
    have hdk : decide ((k : Int) < 64) = true := by simp; omega
    clear hk64 hk
    have hki : (k : Int) < 64 := by omega
    have hck := (hB.below hS.below hB.lt).cell k hklt
    have p0 := hS.kP.cell (o := 0) rfl
    have hss := spotsB_succ p.L k
    rw [Hsp.out, Bool.true_and] at hss
    have hsb : spotB p.L k = (inR (p.L k) (-6) 6 && !((sizeI (p.L k) == 1) && (decide (k < 8) || decide (55 < k)))) := rfl
    rw [hsb] at hss
    have Hss := Lib.hid hss
    clear hss hsb
    have hbad : spotsB p.L (k + 1) = false → spotsB p.L 64 = false := by
      intro h
      cases h2 : spotsB p.L 64
      · rfl
      · have h3 : spotsB p.L (k + 1) = true := by
          unfold spotsB at h2 ⊢
          rw [List.all_eq_true] at h2 ⊢
          intro x hx; exact h2 x (by simp at hx ⊢; omega)
        rw [h3] at h; exact h
    have hn6 := countL_le p.L 6 k
    have hn6' := countL_le p.L (-6) k
    have hy6 := @countL_yes p.L 6 k
    have hy6' := @countL_yes p.L (-6) k
    have hno6 := @countL_no p.L 6 k
    have hno6' := @countL_no p.L (-6) k
    generalize hc6 : countL p.L 6 k = ca at *
    generalize hc6' : countL p.L (-6) k = cb at *
    have Hy6 := Lib.hid hy6
    have Hy6' := Lib.hid hy6'
    have Hno6 := Lib.hid hno6
    have Hno6' := Lib.hid hno6'
    have Hbad := Lib.hid hbad
    clear hy6 hy6' hno6 hno6' hbad hc6 hc6'
    cases hin : inR (p.L k) (-6) 6
    case false =>
      go_wp2_with (first | (go_at_call 25; refine (within_inR _ _ _ _).mono ?_; rintro e w' ⟨rfl, rfl⟩) | (go_at_call 26; refine (size_any _ _ hz0 hz1).mono ?_; rintro e w' ⟨rfl, rfl⟩))
      go_ret
      exact ⟨by rw [Hmay.out, Hbad.out (by rw [Hss.out, hin]; rfl)]; rfl, hS.below⟩
    case true =>
    have hz0 : -9223372036854775807 ≤ p.L k := by simp [inR] at hin; omega
    have hz1 : p.L k ≤ 9223372036854775807 := by simp [inR] at hin; omega
    go_upto_region 8 with fail
    go_cut [64] from 49 to 64 (fun s64 wx => s64 = .bool (!spotsB p.L (k + 1)) ∧ CMS w wx (some ⟨b, off, none⟩) 64 cap p)
    case first =>
      cases h1 : (sizeI (p.L k) == 1)
      case false =>
        go_wp2_with (first | (go_at_call 25; refine (within_inR _ _ _ _).mono ?_; rintro e w' ⟨rfl, rfl⟩) | (go_at_call 26; refine (size_any _ _ hz0 hz1).mono ?_; rintro e w' ⟨rfl, rfl⟩))
        go_meet
        exact ⟨by rw [Hss.out, hin, h1]; rfl, hS⟩
      case true =>
      by_cases h8 : k < 8
      · go_wp2_with (first | (go_at_call 25; refine (within_inR _ _ _ _).mono ?_; rintro e w' ⟨rfl, rfl⟩) | (go_at_call 26; refine (size_any _ _ hz0 hz1).mono ?_; rintro e w' ⟨rfl, rfl⟩))
        go_meet
        exact ⟨by rw [Hss.out, hin, h1]; simp [h8], hS⟩
      by_cases h55 : 55 < k
      · go_wp2_with (first | (go_at_call 25; refine (within_inR _ _ _ _).mono ?_; rintro e w' ⟨rfl, rfl⟩) | (go_at_call 26; refine (size_any _ _ hz0 hz1).mono ?_; rintro e w' ⟨rfl, rfl⟩))
        go_meet
        exact ⟨by rw [Hss.out, hin, h1]; simp [h55]; try omega, hS⟩
      · go_wp2_with (first | (go_at_call 25; refine (within_inR _ _ _ _).mono ?_; rintro e w' ⟨rfl, rfl⟩) | (go_at_call 26; refine (size_any _ _ hz0 hz1).mono ?_; rintro e w' ⟨rfl, rfl⟩))
        go_meet
        exact ⟨by rw [Hss.out, hin, h1]; simp [h8, h55]; try omega, hS⟩
    case rest =>
    clear hS hck p0
    obtain ⟨rfl, hS⟩ := hcut
    cases hsq : spotsB p.L (k + 1)
    case false =>
      go_wp2
      go_ret
      exact ⟨by rw [Hmay.out, Hbad.out hsq]; rfl, hS.below⟩
    case true =>
    cases e6 : (p.L k == 6)
    · cases e6' : (p.L k == -6)
      · go_wp2
        go_roundg (64 - (k + 1))
        case measure => have := Hg.out; omega
        case rel => exact ⟨k + 1, by omega, rfl, by go_num, by rw [Hno6.out e6], by rw [Hno6'.out e6'], hsq, hS⟩
      · go_wp2
        go_roundg (64 - (k + 1))
        case measure => have := Hg.out; omega
        case rel => exact ⟨k + 1, by omega, rfl, by go_num, by rw [Hno6.out e6], by rw [Hy6'.out e6']; go_num, hsq, hS⟩
    · have e6' : (p.L k == -6) = false := by simp at e6 ⊢; omega
      go_wp2
      go_roundg (64 - (k + 1))
      case measure => have := Hg.out; omega
      case rel => exact ⟨k + 1, by omega, rfl, by go_num, by rw [Hy6.out e6]; go_num, by rw [Hno6'.out e6'], hsq, hS⟩
  case rest =>
  clear hS
  obtain ⟨rfl, rfl, hsp, hS⟩ := hcut
  have hbdL : ∀ i, -6 ≤ p.L i ∧ p.L i ≤ 6 := by
    intro i
    rcases Nat.lt_or_ge i 64 with h | h
    · exact spotsB_bd hsp i h
    · rw [hbd i h]; omega
  have hBr : Brd w b off p.L := ⟨hB.lt, hB.cell, hbdL⟩
  have hsp2 := hsp
  have hmay := Hmay.out
  rw [hsp, Bool.true_and] at hmay
  clear Hmay hsp hsp2 hB hbd
  have hkg : countL p.L 6 64 = 1 → countL p.L (-6) 64 = 1 → HasKing p.L (1 - p.turn) := by
    intro h1 h2
    by_cases ht : p.turn = 0
    · obtain ⟨k, hk, he⟩ := count_has (L := p.L) (x := -6) (n := 64) (by omega)
      exact ⟨k, hk, by rw [he, ht]; rfl⟩
    · obtain ⟨k, hk, he⟩ := count_has (L := p.L) (x := 6) (n := 64) (by omega)
      exact ⟨k, hk, by rw [he, show p.turn = 1 by omega]; rfl⟩
  have hte : (1 - p.turn) = 0 ∨ (1 - p.turn) = 1 := by omega
  have hn6 := countL_le p.L 6 64
  have hn6' := countL_le p.L (-6) 64
  generalize countL p.L 6 64 = ca at *
  generalize countL p.L (-6) 64 = cb at *
  have Hmay := Lib.hid hmay
  have Hkg := Lib.hid hkg
  have Hte := Lib.hid hte
  clear hmay hkg hte
  go_upto_region 14 with fail
  go_cut [86] from 73 to 86 (fun s86 wx => s86 = .bool (!((ca == 1) && (cb == 1) && !inCheckB p.L (1 - p.turn))) ∧ CMS w wx (some ⟨b, off, none⟩) 64 cap p)
  case first =>
    have p0 := hS.kP.cell (o := 0) rfl
    have p1 := hS.kP.cell (o := 1) rfl
    cases e1 : ((ca : Int) != 1)
    case true =>
      go_wp2
      go_meet
      exact ⟨by rw [show (ca == 1) = false by simp at e1 ⊢; omega]; rfl, hS⟩
    case false =>
    cases e2 : ((cb : Int) != 1)
    case true =>
      go_wp2
      go_meet
      exact ⟨by rw [show (cb == 1) = false by simp at e2 ⊢; omega]; simp, hS⟩
    case false =>
    have a1 : ca = 1 := by simp at e1; omega
    have a2 : cb = 1 := by simp at e2; omega
    have hk := Lib.hid (Hkg.out a1 a2)
    have A1 := Lib.hid a1
    have A2 := Lib.hid a2
    clear a1 a2
    go_wp2_with (go_at_call 27; refine (inCheck_any b off cap p.L (1 - p.turn) _ Hte.out (hBr.below hS.below hBr.lt) hk.out).mono ?_; rintro e w1 ⟨rfl, hb1⟩)
    go_meet
    exact ⟨by rw [A1.out, A2.out]; simp, hS.trans hb1⟩
  case rest =>
  clear hS
  obtain ⟨rfl, hS⟩ := hcut
  cases hkb : ((ca == 1) && (cb == 1) && !inCheckB p.L (1 - p.turn))
  case false =>
    go_wp2
    go_ret
    exact ⟨by rw [Hmay.out, hkb]; rfl, hS.below⟩
  case true =>
  have hmay := Hmay.out
  rw [hkb, Bool.true_and] at hmay
  clear Hmay hkb Hkg Hte hn6 hn6'
  have Hmay := Lib.hid hmay
  clear hmay
  go_upto_region 16 with fail
  go_cut [7, 8] from 87 to 88 (fun s7 s8 wx => ∃ g1 g2, s7 = .slice (some ⟨g1, 0, none⟩) 4 4 ∧ s8 = .slice (some ⟨g2, 0, none⟩) 4 4 ∧ Blk wx g1 #[.int .i64 4, .int .i64 4, .int .i64 60, .int .i64 60] ∧ Blk wx g2 #[.int .i64 7, .int .i64 0, .int .i64 63, .int .i64 56] ∧ CMS w wx (some ⟨b, off, none⟩) 64 cap p)
  case first =>
    go_wp2
    go_meet
    exact ⟨_, _, rfl, rfl, (Blk.new _ _ _).alloc _, Blk.new' (by simp) _ _, hS.trans (((Below.refl _ _).alloc (Nat.le_refl _) _).alloc (by simp) _)⟩
  case rest =>
  clear hS
  obtain ⟨g1, g2, rfl, rfl, hK, hR, hS⟩ := hcut
  go_upto_block 2 with fail
  go_cut [9] from 89 to 89 (fun s9 wx => rightsB p 4 = true ∧ CMS w wx (some ⟨b, off, none⟩) 64 cap p)
  case first =>
    go_wp2_with fail
    go_loopg [9, 10] 4 (fun gh s9 s10 wx => ∃ k : Nat, k ≤ 4 ∧ gh = 4 - k ∧ s9 = .int .i64 k ∧ rightsB p k = true ∧ Blk wx g1 #[.int .i64 4, .int .i64 4, .int .i64 60, .int .i64 60] ∧ Blk wx g2 #[.int .i64 7, .int .i64 0, .int .i64 63, .int .i64 56] ∧ CMS w wx (some ⟨b, off, none⟩) 64 cap p)
    case atStart => exact ⟨0, by omega, rfl, rfl, rfl, hK, hR, hS⟩
    case round =>
    clear hS hK hR
    obtain ⟨k, hk, hg, rfl, hrt, hK, hR, hS⟩ := hrel
    have Hg := Lib.hid hg
    clear hg
    have hrb : ∀ j, j ≤ 4 → rightsB p j = false → rightsB p 4 = false := by
      intro j hj h
      cases h2 : rightsB p 4
      · rfl
      · have h3 : rightsB p j = true := by
          unfold rightsB at h2 ⊢
          rw [List.all_eq_true] at h2 ⊢
          intro x hx; exact h2 x (by simp at hx ⊢; omega)
        rw [h3] at h; exact h
    have Hrb := Lib.hid hrb
    clear hrb
    have hkk : k = 4 ∨ k = 0 ∨ k = 1 ∨ k = 2 ∨ k = 3 := by omega
    clear hk
    rcases hkk with hk4 | hk0 | hk1 | hk2 | hk3
    · subst hk4
      go_wp2
      go_meet
      exact ⟨hrt, hS⟩
    · subst hk0
      have h0 := (hBr.below hS.below hBr.lt).cell 4 (by omega)
      have h1 := (hBr.below hS.below hBr.lt).cell 7 (by omega)
      have c0 := hK.cell (o := 0) rfl
      have c1 := hR.cell (o := 0) rfl
      have p0 := hS.kP.cell (o := 0) rfl
      have p2 := hS.kP.cell (o := 2) rfl
      have hbit := bits_one (p.castle) (by omega) (by omega)
      have hrs : rightsB p 1 = !(((p.castle) % 2 == 1) && ((p.L 4 != 6) || (p.L 7 != 4))) := by
        rw [show 1 = 0 + 1 from rfl, rightsB_succ, hrt, Bool.true_and]; simp [rightB, homeN, tourN, hueN]
      rw [← hbit] at hrs
      have Hrs := Lib.hid hrs
      clear hrs hbit
      go_upto_region 23 with fail
      go_cut [126] from 95 to 126 (fun s126 wx => s126 = .bool (!rightsB p 1) ∧ Blk wx g1 #[.int .i64 4, .int .i64 4, .int .i64 60, .int .i64 60] ∧ Blk wx g2 #[.int .i64 7, .int .i64 0, .int .i64 63, .int .i64 56] ∧ CMS w wx (some ⟨b, off, none⟩) 64 cap p)
      case first =>
        cases qb : (bits BinOp.and IntKind.i64 (p.castle) 1 == 1)
        case false =>
          go_quiet (fail)
          go_wp2
          go_meet
          exact ⟨by rw [Hrs.out, qb]; rfl, hK.drewN _, hR.drewN _, hS.drewN _⟩
        case true =>
        cases q1 : (p.L 4 != 6)
        all_goals
          go_quiet (fail)
          go_wp2
          go_meet
          exact ⟨by rw [Hrs.out, qb, q1]; simp, hK.drewN _, hR.drewN _, hS.drewN _⟩
      case rest =>
      clear hS hK hR h0 h1 c0 c1 p0 p2
      obtain ⟨rfl, hK, hR, hS⟩ := hcut
      cases hrr : rightsB p 1
      case false =>
        go_wp2
        go_ret
        exact ⟨by rw [Hmay.out, Hrb.out 1 (by omega) hrr]; rfl, hS.below⟩
      case true =>
        go_wp2
        go_roundg (3)
        case measure => have := Hg.out; omega
        case rel => exact ⟨1, by omega, rfl, by go_num, hrr, hK, hR, hS⟩
    · subst hk1
      have h0 := (hBr.below hS.below hBr.lt).cell 4 (by omega)
      have h1 := (hBr.below hS.below hBr.lt).cell 0 (by omega)
      rw [Nat.add_zero] at h1
      have c0 := hK.cell (o := 1) rfl
      have c1 := hR.cell (o := 1) rfl
      have p0 := hS.kP.cell (o := 0) rfl
      have p2 := hS.kP.cell (o := 2) rfl
      have hbit := bits_one (p.castle / 2) (by omega) (by omega)
      have hrs : rightsB p 2 = !(((p.castle / 2) % 2 == 1) && ((p.L 4 != 6) || (p.L 0 != 4))) := by
        rw [show 2 = 1 + 1 from rfl, rightsB_succ, hrt, Bool.true_and]; simp [rightB, homeN, tourN, hueN]
      rw [← hbit] at hrs
      have Hrs := Lib.hid hrs
      clear hrs hbit
      go_upto_region 23 with fail
      go_cut [126] from 95 to 126 (fun s126 wx => s126 = .bool (!rightsB p 2) ∧ Blk wx g1 #[.int .i64 4, .int .i64 4, .int .i64 60, .int .i64 60] ∧ Blk wx g2 #[.int .i64 7, .int .i64 0, .int .i64 63, .int .i64 56] ∧ CMS w wx (some ⟨b, off, none⟩) 64 cap p)
      case first =>
        cases qb : (bits BinOp.and IntKind.i64 (p.castle / 2) 1 == 1)
        case false =>
          go_quiet (fail)
          go_wp2
          go_meet
          exact ⟨by rw [Hrs.out, qb]; rfl, hK.drewN _, hR.drewN _, hS.drewN _⟩
        case true =>
        cases q1 : (p.L 4 != 6)
        all_goals
          go_quiet (fail)
          go_wp2
          go_meet
          exact ⟨by rw [Hrs.out, qb, q1]; simp, hK.drewN _, hR.drewN _, hS.drewN _⟩
      case rest =>
      clear hS hK hR h0 h1 c0 c1 p0 p2
      obtain ⟨rfl, hK, hR, hS⟩ := hcut
      cases hrr : rightsB p 2
      case false =>
        go_wp2
        go_ret
        exact ⟨by rw [Hmay.out, Hrb.out 2 (by omega) hrr]; rfl, hS.below⟩
      case true =>
        go_wp2
        go_roundg (2)
        case measure => have := Hg.out; omega
        case rel => exact ⟨2, by omega, rfl, by go_num, hrr, hK, hR, hS⟩
    · subst hk2
      have h0 := (hBr.below hS.below hBr.lt).cell 60 (by omega)
      have h1 := (hBr.below hS.below hBr.lt).cell 63 (by omega)
      have c0 := hK.cell (o := 2) rfl
      have c1 := hR.cell (o := 2) rfl
      have p0 := hS.kP.cell (o := 0) rfl
      have p2 := hS.kP.cell (o := 2) rfl
      have hbit := bits_one (p.castle / 4) (by omega) (by omega)
      have hrs : rightsB p 3 = !(((p.castle / 4) % 2 == 1) && ((p.L 60 != -6) || (p.L 63 != -4))) := by
        rw [show 3 = 2 + 1 from rfl, rightsB_succ, hrt, Bool.true_and]; simp [rightB, homeN, tourN, hueN]
      rw [← hbit] at hrs
      have Hrs := Lib.hid hrs
      clear hrs hbit
      go_upto_region 23 with fail
      go_cut [126] from 95 to 126 (fun s126 wx => s126 = .bool (!rightsB p 3) ∧ Blk wx g1 #[.int .i64 4, .int .i64 4, .int .i64 60, .int .i64 60] ∧ Blk wx g2 #[.int .i64 7, .int .i64 0, .int .i64 63, .int .i64 56] ∧ CMS w wx (some ⟨b, off, none⟩) 64 cap p)
      case first =>
        cases qb : (bits BinOp.and IntKind.i64 (p.castle / 4) 1 == 1)
        case false =>
          go_quiet (fail)
          go_wp2
          go_meet
          exact ⟨by rw [Hrs.out, qb]; rfl, hK.drewN _, hR.drewN _, hS.drewN _⟩
        case true =>
        cases q1 : (p.L 60 != -6)
        all_goals
          go_quiet (fail)
          go_wp2
          go_meet
          exact ⟨by rw [Hrs.out, qb, q1]; simp, hK.drewN _, hR.drewN _, hS.drewN _⟩
      case rest =>
      clear hS hK hR h0 h1 c0 c1 p0 p2
      obtain ⟨rfl, hK, hR, hS⟩ := hcut
      cases hrr : rightsB p 3
      case false =>
        go_wp2
        go_ret
        exact ⟨by rw [Hmay.out, Hrb.out 3 (by omega) hrr]; rfl, hS.below⟩
      case true =>
        go_wp2
        go_roundg (1)
        case measure => have := Hg.out; omega
        case rel => exact ⟨3, by omega, rfl, by go_num, hrr, hK, hR, hS⟩
    · subst hk3
      have h0 := (hBr.below hS.below hBr.lt).cell 60 (by omega)
      have h1 := (hBr.below hS.below hBr.lt).cell 56 (by omega)
      have c0 := hK.cell (o := 3) rfl
      have c1 := hR.cell (o := 3) rfl
      have p0 := hS.kP.cell (o := 0) rfl
      have p2 := hS.kP.cell (o := 2) rfl
      have hbit := bits_one (p.castle / 8) (by omega) (by omega)
      have hrs : rightsB p 4 = !(((p.castle / 8) % 2 == 1) && ((p.L 60 != -6) || (p.L 56 != -4))) := by
        rw [show 4 = 3 + 1 from rfl, rightsB_succ, hrt, Bool.true_and]; simp [rightB, homeN, tourN, hueN]
      rw [← hbit] at hrs
      have Hrs := Lib.hid hrs
      clear hrs hbit
      go_upto_region 23 with fail
      go_cut [126] from 95 to 126 (fun s126 wx => s126 = .bool (!rightsB p 4) ∧ Blk wx g1 #[.int .i64 4, .int .i64 4, .int .i64 60, .int .i64 60] ∧ Blk wx g2 #[.int .i64 7, .int .i64 0, .int .i64 63, .int .i64 56] ∧ CMS w wx (some ⟨b, off, none⟩) 64 cap p)
      case first =>
        cases qb : (bits BinOp.and IntKind.i64 (p.castle / 8) 1 == 1)
        case false =>
          go_quiet (fail)
          go_wp2
          go_meet
          exact ⟨by rw [Hrs.out, qb]; rfl, hK.drewN _, hR.drewN _, hS.drewN _⟩
        case true =>
        cases q1 : (p.L 60 != -6)
        all_goals
          go_quiet (fail)
          go_wp2
          go_meet
          exact ⟨by rw [Hrs.out, qb, q1]; simp, hK.drewN _, hR.drewN _, hS.drewN _⟩
      case rest =>
      clear hS hK hR h0 h1 c0 c1 p0 p2
      obtain ⟨rfl, hK, hR, hS⟩ := hcut
      cases hrr : rightsB p 4
      case false =>
        go_wp2
        go_ret
        exact ⟨by rw [Hmay.out, Hrb.out 4 (by omega) hrr]; rfl, hS.below⟩
      case true =>
        go_wp2
        go_roundg (0)
        case measure => have := Hg.out; omega
        case rel => exact ⟨4, by omega, rfl, by go_num, hrr, hK, hR, hS⟩
  case rest =>
  clear hS hK hR
  obtain ⟨hrt, hS⟩ := hcut
  have hmay := Hmay.out
  rw [hrt, Bool.true_and] at hmay
  clear Hmay
  have Hmay := Lib.hid hmay
  clear hmay hrt
  have p0 := hS.kP.cell (o := 0) rfl
  have p1 := hS.kP.cell (o := 1) rfl
  have p3 := hS.kP.cell (o := 3) rfl
  have hep : mayEp p = ((p.ep == -1) || (if p.turn == 0 then inR p.ep 40 47 && (p.L p.ep.toNat == 0) && (p.L (p.ep.toNat - 8) == -1) && (p.L (p.ep.toNat + 8) == 0)
    else inR p.ep 16 23 && (p.L p.ep.toNat == 0) && (p.L (p.ep.toNat + 8) == 1) && (p.L (p.ep.toNat - 8) == 0))) := rfl
  cases he1 : (p.ep == -1)
  case true =>
    go_wp2
    go_ret
    exact ⟨by rw [Hmay.out, hep, he1]; rfl, hS.below⟩
  case false =>
  rw [he1, Bool.false_or] at hep
  cases ht : (p.turn == 0)
  case true =>
    rw [ht, if_pos rfl] at hep
    have Hep := Lib.hid hep
    clear hep
    cases hw : inR p.ep 40 47
    case false =>
      go_wp2_with (go_at_call 25; refine (within_inR _ _ _ _).mono ?_; rintro e w' ⟨rfl, rfl⟩)
      go_ret
      exact ⟨by rw [Hmay.out, Hep.out, hw]; rfl, hS.below⟩
    case true =>
    obtain ⟨e, he, hlo, hhi⟩ : ∃ e : Nat, p.ep = e ∧ 40 ≤ e ∧ e ≤ 47 := by
      simp [inR] at hw; exact ⟨p.ep.toNat, by omega, by omega, by omega⟩
    rw [he] at hw Hep p3
    rw [he]
    have q0 := (hBr.below hS.below hBr.lt).cell e (by omega)
    have q1 := (hBr.below hS.below hBr.lt).cell (e - 8) (by omega)
    have q2 := (hBr.below hS.below hBr.lt).cell (e + 8) (by omega)
    have hei : (e : Int) < 64 := by omega
    rw [Int.toNat_natCast] at Hep
    have x1 : ((e : Int) - 8).toNat = e - 8 := by omega
    have x2 : ((e : Int) + 8).toNat = e + 8 := by omega
    cases z0 : (p.L e == 0)
    case false =>
      go_wp2_with (go_at_call 25; refine (within_inR _ _ _ _).mono ?_; rintro e w' ⟨rfl, rfl⟩)
      go_ret
      exact ⟨by rw [Hmay.out, Hep.out, hw, z0]; rfl, hS.below⟩
    case true =>
    cases z1 : (p.L (e - 8) == -1)
    case false =>
      go_wp2_with (go_at_call 25; refine (within_inR _ _ _ _).mono ?_; rintro e w' ⟨rfl, rfl⟩)
      go_ret
      exact ⟨by rw [Hmay.out, Hep.out, hw, z0, z1]; rfl, hS.below⟩
    case true =>
    cases z2 : (p.L (e + 8) == 0)
    all_goals
      go_wp2_with (go_at_call 25; refine (within_inR _ _ _ _).mono ?_; rintro e w' ⟨rfl, rfl⟩)
      go_ret
      exact ⟨by rw [Hmay.out, Hep.out, hw, z0, z1, z2]; rfl, hS.below⟩
  case false =>
    rw [ht, if_neg (by decide)] at hep
    have Hep := Lib.hid hep
    clear hep
    cases hw : inR p.ep 16 23
    case false =>
      go_wp2_with (go_at_call 25; refine (within_inR _ _ _ _).mono ?_; rintro e w' ⟨rfl, rfl⟩)
      go_ret
      exact ⟨by rw [Hmay.out, Hep.out, hw]; rfl, hS.below⟩
    case true =>
    obtain ⟨e, he, hlo, hhi⟩ : ∃ e : Nat, p.ep = e ∧ 16 ≤ e ∧ e ≤ 23 := by
      simp [inR] at hw; exact ⟨p.ep.toNat, by omega, by omega, by omega⟩
    rw [he] at hw Hep p3
    rw [he]
    have q0 := (hBr.below hS.below hBr.lt).cell e (by omega)
    have q1 := (hBr.below hS.below hBr.lt).cell (e - 8) (by omega)
    have q2 := (hBr.below hS.below hBr.lt).cell (e + 8) (by omega)
    have hei : (e : Int) < 64 := by omega
    rw [Int.toNat_natCast] at Hep
    have x1 : ((e : Int) - 8).toNat = e - 8 := by omega
    have x2 : ((e : Int) + 8).toNat = e + 8 := by omega
    cases z0 : (p.L e == 0)
    case false =>
      go_wp2_with (go_at_call 25; refine (within_inR _ _ _ _).mono ?_; rintro e w' ⟨rfl, rfl⟩)
      go_ret
      exact ⟨by rw [Hmay.out, Hep.out, hw, z0]; rfl, hS.below⟩
    case true =>
    cases z1 : (p.L (e + 8) == 1)
    case false =>
      go_wp2_with (go_at_call 25; refine (within_inR _ _ _ _).mono ?_; rintro e w' ⟨rfl, rfl⟩)
      go_ret
      exact ⟨by rw [Hmay.out, Hep.out, hw, z0, z1]; rfl, hS.below⟩
    case true =>
    cases z2 : (p.L (e - 8) == 0)
    all_goals
      go_wp2_with (go_at_call 25; refine (within_inR _ _ _ _).mono ?_; rintro e w' ⟨rfl, rfl⟩)
      go_ret
      exact ⟨by rw [Hmay.out, Hep.out, hw, z0, z1, z2]; rfl, hS.below⟩

end Go.Proofs.YthffhhbbhjcdeaaGreatDoor
