/- WALKS: the program's May. -/
import Derived.Test.YthffhhbbhjcdeaaGreatDoorC5
import Derived.BigQuiet
set_option linter.unusedVariables false
set_option linter.unusedSimpArgs false
namespace Go.Proofs.YthffhhbbhjcdeaaGreatDoor
open Go.RowKit
set_option maxRecDepth 100000

theorem mayHead_or (n : Nat) (p : Pos) : mayHead n p = !(((n : Int) != 64) || decide (p.turn < 0) || decide (1 < p.turn) || decide (p.castle < 0) || decide (15 < p.castle) || decide (p.half < 0) || decide (999 < p.half) || decide (p.full < 1) || decide (999 < p.full)) := by
  rw [Bool.eq_iff_iff]
  simp [mayHead, inR]
  omega
theorem spot_kind (L : Nat → Int) (k : Nat) (x : Int) (hx : L k = x) (hw : -9223372036854775808 ≤ x) : spotB L k = ((kindI x == 0 || kindI x == 2 || kindI x == 3 || kindI x == 4 || kindI x == 5 || kindI x == 6) || (kindI x == 1 && !(decide (k < 8) || decide (55 < k)))) := by
  unfold spotB kindI
  rw [hx, Bool.eq_iff_iff]
  split
  · rename_i h; subst h; simp [inR]
  · have : sizeI x = x ∨ sizeI x = -x := by unfold sizeI; split <;> omega
    have h0 : 0 ≤ sizeI x := by unfold sizeI; split <;> omega
    simp [inR]
    omega

theorem rightP_0 (w : World) : Calls Tryz.prog 62 #[.int .i64 0] w (RetW (.tuple #[.int .i64 4, .int .i64 7]) w) := rightP_any 0 w (by omega)
theorem rightP_1 (w : World) : Calls Tryz.prog 62 #[.int .i64 1] w (RetW (.tuple #[.int .i64 4, .int .i64 0]) w) := rightP_any 1 w (by omega)
theorem rightP_2 (w : World) : Calls Tryz.prog 62 #[.int .i64 2] w (RetW (.tuple #[.int .i64 60, .int .i64 63]) w) := rightP_any 2 w (by omega)
theorem rightP_3 (w : World) : Calls Tryz.prog 62 #[.int .i64 3] w (RetW (.tuple #[.int .i64 60, .int .i64 56]) w) := rightP_any 3 w (by omega)

set_option maxHeartbeats 8000000 in
theorem mayProg_any (a : Option Addr) (n cap : Nat) (p : Pos) (w : World) (hn : n ≤ 2000000) (hrow : n = 64 → ∃ b off, a = some ⟨b, off, none⟩ ∧ BrdA w b off p.L) (hbd : ∀ i, 64 ≤ i → p.L i = 0) (hwf : ∀ i, -9223372036854775808 ≤ p.L i ∧ p.L i ≤ 9223372036854775807) :
    Calls Tryz.prog 34 #[.agg #[.slice a n cap, .int .i64 p.turn, .int .i64 p.castle, .int .i64 p.ep, .int .i64 p.half, .int .i64 p.full]] w (RetB (.bool (mayB n p)) w) := by
  have Hwf := Lib.hid hwf
  clear hwf
  go_enter Tryz.func34, Tryz.ntmps34
  go_upto_region 1 with fail
  generalize hW0 : World.alloc _ _ = W0
  have hS : CMS w W0 a n cap p := by rw [← hW0]; exact ⟨Blk.new w _ _, (Below.refl _ _).alloc (Nat.le_refl _) _⟩
  clear hW0
  go_cut [53] from 10 to 53 (fun s53 wx => s53 = .bool (!mayHead n p) ∧ CMS w wx a n cap p)
  case first =>
    have p0 := hS.kP.cell (o := 0) rfl
    have p1 := hS.kP.cell (o := 1) rfl
    have p2 := hS.kP.cell (o := 2) rfl
    have p4 := hS.kP.cell (o := 4) rfl
    have p5 := hS.kP.cell (o := 5) rfl
    have hh := mayHead_or n p
    have Hh := Lib.hid hh
    clear hh
    cases q0 : ((n : Int) != 64)
    case true =>
      go_wp2
      go_meet
      exact ⟨by rw [Hh.out, q0]; rfl, hS⟩
    case false =>
    cases q1 : decide (p.turn < 0)
    case true =>
      go_wp2
      go_meet
      exact ⟨by rw [Hh.out, q0, q1]; rfl, hS⟩
    case false =>
    cases q2 : decide (1 < p.turn)
    case true =>
      go_wp2
      go_meet
      exact ⟨by rw [Hh.out, q0, q1, q2]; rfl, hS⟩
    case false =>
    cases q3 : decide (p.castle < 0)
    case true =>
      go_wp2
      go_meet
      exact ⟨by rw [Hh.out, q0, q1, q2, q3]; rfl, hS⟩
    case false =>
    cases q4 : decide (15 < p.castle)
    case true =>
      go_wp2
      go_meet
      exact ⟨by rw [Hh.out, q0, q1, q2, q3, q4]; rfl, hS⟩
    case false =>
    cases q5 : decide (p.half < 0)
    case true =>
      go_wp2
      go_meet
      exact ⟨by rw [Hh.out, q0, q1, q2, q3, q4, q5]; rfl, hS⟩
    case false =>
    cases q6 : decide (999 < p.half)
    case true =>
      go_wp2
      go_meet
      exact ⟨by rw [Hh.out, q0, q1, q2, q3, q4, q5, q6]; rfl, hS⟩
    case false =>
    cases q7 : decide (p.full < 1)
    case true =>
      go_wp2
      go_meet
      exact ⟨by rw [Hh.out, q0, q1, q2, q3, q4, q5, q6, q7]; rfl, hS⟩
    case false =>
    cases q8 : decide (999 < p.full)
    all_goals
      go_wp2
      go_meet
      exact ⟨by rw [Hh.out, q0, q1, q2, q3, q4, q5, q6, q7, q8]; rfl, hS⟩
  case rest =>
  clear hS
  obtain ⟨rfl, hS⟩ := hcut
  cases hmh : mayHead n p
  case false =>
    go_wp2
    go_ret
    exact ⟨by rw [mayB, hmh]; rfl, hS.below⟩
  case true =>
  have hmay : mayB n p = (spotsB p.L 64 && ((countL p.L 6 64 == 1) && (countL p.L (-6) 64 == 1) && !inCheckB p.L (1 - p.turn)) && rightsB p 4 && mayEp p) := by rw [mayB, hmh, Bool.true_and]
  have Hmay := Lib.hid hmay
  clear hmay
  simp [mayHead, inR] at hmh
  obtain ⟨⟨⟨⟨rfl, ht0, ht1⟩, hc0, hc1⟩, _, _⟩, _, _⟩ := hmh
  obtain ⟨b, off, rfl, hB⟩ := hrow rfl
  clear hrow hn
  have hl64 := fun o => (hS.kP.alloc o).cell (o := 0) rfl
  have hkb2 := hS.kP.lt
  go_upto_block 0 with fail
  clear hl64
  generalize hW1 : World.alloc _ _ = W1
  have hK : Blk W1 wc.heap.size #[.int .i64 (countL p.L 6 0), .int .i64 (countL p.L (-6) 0)] := by rw [← hW1]; exact Blk.new _ _ _
  have hS : CMS w W1 (some ⟨b, off, none⟩) 64 cap p := by rw [← hW1]; exact hS.trans ((Below.refl _ _).alloc (Nat.le_refl _) _)
  have hkb := hS.kP.lt
  clear hW1
  generalize wc.heap.size = kb at *
  go_cut [3] from 57 to 86 (fun s3 wx => s3 = .pointer (some ⟨kb, 0, none⟩) ∧ spotsB p.L 64 = true ∧ Blk wx kb #[.int .i64 (countL p.L 6 64), .int .i64 (countL p.L (-6) 64)] ∧ CMS w wx (some ⟨b, off, none⟩) 64 cap p)
  case first =>
    go_wp2_with fail
    go_loopg [57] 64 (fun gh s57 wx => ∃ k : Nat, k ≤ 64 ∧ gh = 64 - k ∧ s57 = .int .i64 k ∧ spotsB p.L k = true ∧ Blk wx kb #[.int .i64 (countL p.L 6 k), .int .i64 (countL p.L (-6) k)] ∧ CMS w wx (some ⟨b, off, none⟩) 64 cap p)
    case atStart => exact ⟨0, by omega, rfl, rfl, rfl, hK, hS⟩
    case round =>
    clear hS hK
    obtain ⟨k, hk, hg, rfl, hsp, hK, hS⟩ := hrel
    have Hg := Lib.hid hg
    have Hsp := Lib.hid hsp
    clear hg hsp
    by_cases hk64 : k = 64
    · subst hk64
      go_wp2
      go_meet
      exact ⟨rfl, Hsp.out, hK, hS⟩
    have hklt : k < 64 := by omega
    have hdk : decide ((k : Int) < 64) = true := by simp; omega
    clear hk64 hk
    have hki : (k : Int) < 64 := by omega
    have hck := (hB.below hS.below hB.lt).cell k hklt
    have hss := spotsB_succ p.L k
    rw [Hsp.out, Bool.true_and] at hss
    have hbad : spotsB p.L (k + 1) = false → spotsB p.L 64 = false := by
      intro h
      cases h2 : spotsB p.L 64
      · rfl
      · have h3 : spotsB p.L (k + 1) = true := by
          unfold spotsB at h2 ⊢
          rw [List.all_eq_true] at h2 ⊢
          intro x hx; exact h2 x (by simp at hx ⊢; omega)
        rw [h3] at h; exact h
    have hn6 := countL_le p.L 6 k
    have hn6' := countL_le p.L (-6) k
    have hy6 := @countL_yes p.L 6 k
    have hy6' := @countL_yes p.L (-6) k
    have hno6 := @countL_no p.L 6 k
    have hno6' := @countL_no p.L (-6) k
    have hwx := Hwf.out k
    generalize hc6 : countL p.L 6 k = ca at *
    generalize hc6' : countL p.L (-6) k = cb at *
    have hsk := spot_kind p.L k (p.L k) rfl hwx.1
    generalize hx : p.L k = x at *
    have Hss := Lib.hid hss
    have Hsk := Lib.hid hsk
    have Hy6 := Lib.hid hy6
    have Hy6' := Lib.hid hy6'
    have Hno6 := Lib.hid hno6
    have Hno6' := Lib.hid hno6'
    have Hbad := Lib.hid hbad
    clear hss hsk hy6 hy6' hno6 hno6' hbad hc6 hc6' hx
    have hkx := kindP_all x
    have hki2 : kindI x = 6 → x = 6 ∨ x = -6 := by unfold kindI sizeI; intro h; split at h <;> (try split at h) <;> omega
    have hki3 : kindI x ≠ 6 → x ≠ 6 ∧ x ≠ -6 := by unfold kindI sizeI; intro h; constructor <;> (rintro rfl; simp at h)
    have Hki2 := Lib.hid hki2
    have Hki3 := Lib.hid hki3
    have Hkx := Lib.hid hkx
    clear hki2 hki3 hkx
    generalize kindI x = kv at *
    cases t0 : (kv == 0)
    case true =>
      have e : kv = 0 := by simpa using t0
      have Hspk : Hid (spotsB p.L (k + 1) = true) := Lib.hid (by rw [Hss.out, Hsk.out, e]; rfl)
      have E := Lib.hid e
      clear e
      go_wp2_with (first | (go_at_call 59; refine (Hkx.out _ hwx.1 hwx.2).mono ?_; rintro e w' ⟨rfl, rfl⟩) | (go_at_call 60; refine (sideP_any _ _).mono ?_; rintro e w' ⟨rfl, rfl⟩))
      go_roundg (64 - (k + 1))
      case measure => have := Hg.out; omega
      case rel => exact ⟨k + 1, by omega, rfl, by go_num, Hspk.out, by rw [Hno6.out (by simpa using (Hki3.out (by rw [E.out]; decide)).1), Hno6'.out (by simpa using (Hki3.out (by rw [E.out]; decide)).2)]; exact hK, hS⟩
    case false =>
    cases t2 : (kv == 2)
    case true =>
      have e : kv = 2 := by simpa using t2
      have Hspk : Hid (spotsB p.L (k + 1) = true) := Lib.hid (by rw [Hss.out, Hsk.out, e]; rfl)
      have E := Lib.hid e
      clear e
      go_wp2_with (first | (go_at_call 59; refine (Hkx.out _ hwx.1 hwx.2).mono ?_; rintro e w' ⟨rfl, rfl⟩) | (go_at_call 60; refine (sideP_any _ _).mono ?_; rintro e w' ⟨rfl, rfl⟩))
      go_roundg (64 - (k + 1))
      case measure => have := Hg.out; omega
      case rel => exact ⟨k + 1, by omega, rfl, by go_num, Hspk.out, by rw [Hno6.out (by simpa using (Hki3.out (by rw [E.out]; decide)).1), Hno6'.out (by simpa using (Hki3.out (by rw [E.out]; decide)).2)]; exact hK, hS⟩
    case false =>
    cases t3 : (kv == 3)
    case true =>
      have e : kv = 3 := by simpa using t3
      have Hspk : Hid (spotsB p.L (k + 1) = true) := Lib.hid (by rw [Hss.out, Hsk.out, e]; rfl)
      have E := Lib.hid e
      clear e
      go_wp2_with (first | (go_at_call 59; refine (Hkx.out _ hwx.1 hwx.2).mono ?_; rintro e w' ⟨rfl, rfl⟩) | (go_at_call 60; refine (sideP_any _ _).mono ?_; rintro e w' ⟨rfl, rfl⟩))
      go_roundg (64 - (k + 1))
      case measure => have := Hg.out; omega
      case rel => exact ⟨k + 1, by omega, rfl, by go_num, Hspk.out, by rw [Hno6.out (by simpa using (Hki3.out (by rw [E.out]; decide)).1), Hno6'.out (by simpa using (Hki3.out (by rw [E.out]; decide)).2)]; exact hK, hS⟩
    case false =>
    cases t4 : (kv == 4)
    case true =>
      have e : kv = 4 := by simpa using t4
      have Hspk : Hid (spotsB p.L (k + 1) = true) := Lib.hid (by rw [Hss.out, Hsk.out, e]; rfl)
      have E := Lib.hid e
      clear e
      go_wp2_with (first | (go_at_call 59; refine (Hkx.out _ hwx.1 hwx.2).mono ?_; rintro e w' ⟨rfl, rfl⟩) | (go_at_call 60; refine (sideP_any _ _).mono ?_; rintro e w' ⟨rfl, rfl⟩))
      go_roundg (64 - (k + 1))
      case measure => have := Hg.out; omega
      case rel => exact ⟨k + 1, by omega, rfl, by go_num, Hspk.out, by rw [Hno6.out (by simpa using (Hki3.out (by rw [E.out]; decide)).1), Hno6'.out (by simpa using (Hki3.out (by rw [E.out]; decide)).2)]; exact hK, hS⟩
    case false =>
    cases t5 : (kv == 5)
    case true =>
      have e : kv = 5 := by simpa using t5
      have Hspk : Hid (spotsB p.L (k + 1) = true) := Lib.hid (by rw [Hss.out, Hsk.out, e]; rfl)
      have E := Lib.hid e
      clear e
      go_wp2_with (first | (go_at_call 59; refine (Hkx.out _ hwx.1 hwx.2).mono ?_; rintro e w' ⟨rfl, rfl⟩) | (go_at_call 60; refine (sideP_any _ _).mono ?_; rintro e w' ⟨rfl, rfl⟩))
      go_roundg (64 - (k + 1))
      case measure => have := Hg.out; omega
      case rel => exact ⟨k + 1, by omega, rfl, by go_num, Hspk.out, by rw [Hno6.out (by simpa using (Hki3.out (by rw [E.out]; decide)).1), Hno6'.out (by simpa using (Hki3.out (by rw [E.out]; decide)).2)]; exact hK, hS⟩
    case false =>
    cases t1 : (kv == 1)
    case true =>
      have e : kv = 1 := by simpa using t1
      have E := Lib.hid e
      clear e
      by_cases h8 : k < 8
      · have Hb := Lib.hid (Hbad.out (by rw [Hss.out, Hsk.out, E.out]; simp [h8]))
        go_wp2_with (first | (go_at_call 59; refine (Hkx.out _ hwx.1 hwx.2).mono ?_; rintro e w' ⟨rfl, rfl⟩) | (go_at_call 60; refine (sideP_any _ _).mono ?_; rintro e w' ⟨rfl, rfl⟩))
        go_ret
        exact ⟨by rw [Hmay.out, Hb.out]; rfl, hS.below⟩
      by_cases h55 : 55 < k
      · have Hb := Lib.hid (Hbad.out (by rw [Hss.out, Hsk.out, E.out]; simp [h55]))
        go_wp2_with (first | (go_at_call 59; refine (Hkx.out _ hwx.1 hwx.2).mono ?_; rintro e w' ⟨rfl, rfl⟩) | (go_at_call 60; refine (sideP_any _ _).mono ?_; rintro e w' ⟨rfl, rfl⟩))
        go_ret
        exact ⟨by rw [Hmay.out, Hb.out]; rfl, hS.below⟩
      have Hspk : Hid (spotsB p.L (k + 1) = true) := Lib.hid (by rw [Hss.out, Hsk.out, E.out]; simp; omega)
      go_wp2_with (first | (go_at_call 59; refine (Hkx.out _ hwx.1 hwx.2).mono ?_; rintro e w' ⟨rfl, rfl⟩) | (go_at_call 60; refine (sideP_any _ _).mono ?_; rintro e w' ⟨rfl, rfl⟩))
      go_roundg (64 - (k + 1))
      case measure => have := Hg.out; omega
      case rel => exact ⟨k + 1, by omega, rfl, by go_num, Hspk.out, by rw [Hno6.out (by simpa using (Hki3.out (by rw [E.out]; decide)).1), Hno6'.out (by simpa using (Hki3.out (by rw [E.out]; decide)).2)]; exact hK, hS⟩
    case false =>
    cases t6 : (kv == 6)
    case false =>
      have Hb := Lib.hid (Hbad.out (by rw [Hss.out, Hsk.out, t0, t2, t3, t4, t5, t1, t6]; rfl))
      go_wp2_with (first | (go_at_call 59; refine (Hkx.out _ hwx.1 hwx.2).mono ?_; rintro e w' ⟨rfl, rfl⟩) | (go_at_call 60; refine (sideP_any _ _).mono ?_; rintro e w' ⟨rfl, rfl⟩))
      go_ret
      exact ⟨by rw [Hmay.out, Hb.out]; rfl, hS.below⟩
    case true =>
    have e : kv = 6 := by simpa using t6
    have Hspk : Hid (spotsB p.L (k + 1) = true) := Lib.hid (by rw [Hss.out, Hsk.out, e]; rfl)
    have hx6 := Hki2.out e
    clear e
    have k0 := hK.cell (o := 0) rfl
    have k1 := hK.cell (o := 1) rfl
    have f0 := hK.free 0
    have f1 := hK.free 1
    rcases hx6 with rfl | rfl
    · go_wp2_with (first | (go_at_call 59; refine (Hkx.out _ hwx.1 hwx.2).mono ?_; rintro e w' ⟨rfl, rfl⟩) | (go_at_call 60; refine (sideP_any _ _).mono ?_; rintro e w' ⟨rfl, rfl⟩; rw [show sideR 6 = 0 from rfl]))
      go_roundg (64 - (k + 1))
      case measure => have := Hg.out; omega
      case rel =>
        refine ⟨k + 1, by omega, rfl, by go_num, Hspk.out, ?_, hS.kP.other (by omega) _ _, hS.below.setCell (by simp; omega) _⟩
        rw [Hy6.out rfl, Hno6'.out rfl]
        exact hK.set 0 _
    · go_wp2_with (first | (go_at_call 59; refine (Hkx.out _ hwx.1 hwx.2).mono ?_; rintro e w' ⟨rfl, rfl⟩) | (go_at_call 60; refine (sideP_any _ _).mono ?_; rintro e w' ⟨rfl, rfl⟩; rw [show sideR (-6) = 1 from rfl]))
      go_roundg (64 - (k + 1))
      case measure => have := Hg.out; omega
      case rel =>
        refine ⟨k + 1, by omega, rfl, by go_num, Hspk.out, ?_, hS.kP.other (by omega) _ _, hS.below.setCell (by simp; omega) _⟩
        rw [Hy6'.out rfl, Hno6.out rfl]
        exact hK.set 1 _
  case rest =>
  clear hS hK
  obtain ⟨rfl, hsp, hK, hS⟩ := hcut
  have hbdL : ∀ i, -6 ≤ p.L i ∧ p.L i ≤ 6 := by
    intro i
    rcases Nat.lt_or_ge i 64 with h | h
    · exact spotsB_bd hsp i h
    · rw [hbd i h]; omega
  have hBr : Brd w b off p.L := ⟨hB.lt, hB.cell, hbdL⟩
  have hmay := Hmay.out
  rw [hsp, Bool.true_and] at hmay
  clear Hmay hsp hB hbd Hwf
  have hkg : countL p.L 6 64 = 1 → countL p.L (-6) 64 = 1 → HasKing p.L (1 - p.turn) := by
    intro h1 h2
    by_cases ht : p.turn = 0
    · obtain ⟨k, hk, he⟩ := count_has (L := p.L) (x := -6) (n := 64) (by omega)
      exact ⟨k, hk, by rw [he, ht]; rfl⟩
    · obtain ⟨k, hk, he⟩ := count_has (L := p.L) (x := 6) (n := 64) (by omega)
      exact ⟨k, hk, by rw [he, show p.turn = 1 by omega]; rfl⟩
  have hte : (1 - p.turn) = 0 ∨ (1 - p.turn) = 1 := by omega
  generalize countL p.L 6 64 = ca at *
  generalize countL p.L (-6) 64 = cb at *
  have Hmay := Lib.hid hmay
  have Hkg := Lib.hid hkg
  have Hte := Lib.hid hte
  clear hmay hkg hte
  go_upto_region 20 with fail
  go_cut [97] from 87 to 97 (fun s97 wx => s97 = .bool (!((ca == 1) && (cb == 1) && !inCheckB p.L (1 - p.turn))) ∧ CMS w wx (some ⟨b, off, none⟩) 64 cap p)
  case first =>
    have p0 := hS.kP.cell (o := 0) rfl
    have p1 := hS.kP.cell (o := 1) rfl
    have k0 := hK.cell (o := 0) rfl
    have k1 := hK.cell (o := 1) rfl
    have hq := run_neqTwo
    cases e1 : ((ca : Int) == 1)
    case false =>
      go_wp2
      go_meet
      exact ⟨by rw [show (ca == 1) = false by simp at e1 ⊢; omega]; rfl, hS⟩
    case true =>
    cases e2 : ((cb : Int) == 1)
    case false =>
      go_wp2
      go_meet
      exact ⟨by rw [show (cb == 1) = false by simp at e2 ⊢; omega]; simp, hS⟩
    case true =>
    have a1 : ca = 1 := by simp at e1; omega
    have a2 : cb = 1 := by simp at e2; omega
    have hk := Lib.hid (Hkg.out a1 a2)
    have A1 := Lib.hid a1
    have A2 := Lib.hid a2
    clear a1 a2
    go_wp2_with (go_at_call 61; refine (checkedP_any b off cap p.L (1 - p.turn) _ Hte.out (hBr.below hS.below hBr.lt) hk.out).mono ?_; rintro e w1 ⟨rfl, hb1⟩)
    go_meet
    exact ⟨by rw [A1.out, A2.out]; simp, hS.trans hb1⟩
  case rest =>
  clear hS hK
  obtain ⟨rfl, hS⟩ := hcut
  cases hkb : ((ca == 1) && (cb == 1) && !inCheckB p.L (1 - p.turn))
  case false =>
    go_wp2
    go_ret
    exact ⟨by rw [Hmay.out, hkb]; rfl, hS.below⟩
  case true =>
  have hmay := Hmay.out
  rw [hkb, Bool.true_and] at hmay
  clear Hmay hkb Hkg
  have Hmay := Lib.hid hmay
  clear hmay
  go_upto_block 3 with fail
  go_cut [98] from 98 to 135 (fun s98 wx => rightsB p 4 = true ∧ CMS w wx (some ⟨b, off, none⟩) 64 cap p)
  case first =>
    go_wp2_with fail
    go_loopg [98] 4 (fun gh s98 wx => ∃ k : Nat, k ≤ 4 ∧ gh = 4 - k ∧ s98 = .int .i64 k ∧ rightsB p k = true ∧ CMS w wx (some ⟨b, off, none⟩) 64 cap p)
    case atStart => exact ⟨0, by omega, rfl, rfl, rfl, hS⟩
    case round =>
    clear hS
    obtain ⟨k, hk, hg, rfl, hrt, hS⟩ := hrel
    have Hg := Lib.hid hg
    clear hg
    have hrb : ∀ j, j ≤ 4 → rightsB p j = false → rightsB p 4 = false := by
      intro j hj h
      cases h2 : rightsB p 4
      · rfl
      · have h3 : rightsB p j = true := by
          unfold rightsB at h2 ⊢
          rw [List.all_eq_true] at h2 ⊢
          intro x hx; exact h2 x (by simp at hx ⊢; omega)
        rw [h3] at h; exact h
    have Hrb := Lib.hid hrb
    clear hrb
    have hkk : k = 4 ∨ k = 0 ∨ k = 1 ∨ k = 2 ∨ k = 3 := by omega
    clear hk
    have p0 := hS.kP.cell (o := 0) rfl
    have p2 := hS.kP.cell (o := 2) rfl
    rcases hkk with hk4 | hk0 | hk1 | hk2 | hk3
    · subst hk4
      go_wp2
      go_meet
      exact ⟨hrt, hS⟩
    · subst hk0
      have h0 := (hBr.below hS.below hBr.lt).cell 4 (by omega)
      have h1 := (hBr.below hS.below hBr.lt).cell 7 (by omega)
      have hbit := bits_one (p.castle) (by omega) (by omega)
      have hrs : rightsB p 1 = !(((p.castle) % 2 == 1) && ((p.L 4 != 6) || (p.L 7 != 4))) := by
        rw [show 1 = 0 + 1 from rfl, rightsB_succ, hrt, Bool.true_and]; simp [rightB, homeN, tourN, hueN]
      rw [← hbit] at hrs
      have Hrs := Lib.hid hrs
      clear hrs hbit
      cases qb : (bits BinOp.and IntKind.i64 (p.castle) 1 == 1)
      case false =>
        have hrr := Lib.hid (show rightsB p 1 = true by rw [Hrs.out, qb]; rfl)
        go_wp2_with (first | (go_at_call 62; refine (rightP_0 _).mono ?_; rintro e w' ⟨rfl, rfl⟩) | (go_at_call 63; refine (forwardP_any _ _ (by omega) (by omega)).mono ?_; rintro e w' ⟨rfl, rfl⟩))
        go_roundg (3)
        case measure => have := Hg.out; omega
        case rel => exact ⟨1, by omega, rfl, by go_num, hrr.out, hS⟩
      case true =>
      cases q1 : (p.L 4 != 6)
      case true =>
        have hrr := Lib.hid (Hrb.out 1 (by omega) (by rw [Hrs.out, qb, q1]; rfl))
        go_wp2_with (first | (go_at_call 62; refine (rightP_0 _).mono ?_; rintro e w' ⟨rfl, rfl⟩) | (go_at_call 63; refine (forwardP_any _ _ (by omega) (by omega)).mono ?_; rintro e w' ⟨rfl, rfl⟩))
        go_ret
        exact ⟨by rw [Hmay.out, hrr.out]; rfl, hS.below⟩
      case false =>
      cases q2 : (p.L 7 != 4)
      case true =>
        have hrr := Lib.hid (Hrb.out 1 (by omega) (by rw [Hrs.out, qb, q1, q2]; rfl))
        go_wp2_with (first | (go_at_call 62; refine (rightP_0 _).mono ?_; rintro e w' ⟨rfl, rfl⟩) | (go_at_call 63; refine (forwardP_any _ _ (by omega) (by omega)).mono ?_; rintro e w' ⟨rfl, rfl⟩))
        go_ret
        exact ⟨by rw [Hmay.out, hrr.out]; rfl, hS.below⟩
      case false =>
        have hrr := Lib.hid (show rightsB p 1 = true by rw [Hrs.out, qb, q1, q2]; rfl)
        go_wp2_with (first | (go_at_call 62; refine (rightP_0 _).mono ?_; rintro e w' ⟨rfl, rfl⟩) | (go_at_call 63; refine (forwardP_any _ _ (by omega) (by omega)).mono ?_; rintro e w' ⟨rfl, rfl⟩))
        go_roundg (3)
        case measure => have := Hg.out; omega
        case rel => exact ⟨1, by omega, rfl, by go_num, hrr.out, hS⟩
    · subst hk1
      have h0 := (hBr.below hS.below hBr.lt).cell 4 (by omega)
      have h1 := (hBr.below hS.below hBr.lt).cell 0 (by omega); rw [Nat.add_zero] at h1
      have hbit := bits_one (p.castle / 2) (by omega) (by omega)
      have hrs : rightsB p 2 = !(((p.castle / 2) % 2 == 1) && ((p.L 4 != 6) || (p.L 0 != 4))) := by
        rw [show 2 = 1 + 1 from rfl, rightsB_succ, hrt, Bool.true_and]; simp [rightB, homeN, tourN, hueN]
      rw [← hbit] at hrs
      have Hrs := Lib.hid hrs
      clear hrs hbit
      cases qb : (bits BinOp.and IntKind.i64 (p.castle / 2) 1 == 1)
      case false =>
        have hrr := Lib.hid (show rightsB p 2 = true by rw [Hrs.out, qb]; rfl)
        go_wp2_with (first | (go_at_call 62; refine (rightP_1 _).mono ?_; rintro e w' ⟨rfl, rfl⟩) | (go_at_call 63; refine (forwardP_any _ _ (by omega) (by omega)).mono ?_; rintro e w' ⟨rfl, rfl⟩))
        go_roundg (2)
        case measure => have := Hg.out; omega
        case rel => exact ⟨2, by omega, rfl, by go_num, hrr.out, hS⟩
      case true =>
      cases q1 : (p.L 4 != 6)
      case true =>
        have hrr := Lib.hid (Hrb.out 2 (by omega) (by rw [Hrs.out, qb, q1]; rfl))
        go_wp2_with (first | (go_at_call 62; refine (rightP_1 _).mono ?_; rintro e w' ⟨rfl, rfl⟩) | (go_at_call 63; refine (forwardP_any _ _ (by omega) (by omega)).mono ?_; rintro e w' ⟨rfl, rfl⟩))
        go_ret
        exact ⟨by rw [Hmay.out, hrr.out]; rfl, hS.below⟩
      case false =>
      cases q2 : (p.L 0 != 4)
      case true =>
        have hrr := Lib.hid (Hrb.out 2 (by omega) (by rw [Hrs.out, qb, q1, q2]; rfl))
        go_wp2_with (first | (go_at_call 62; refine (rightP_1 _).mono ?_; rintro e w' ⟨rfl, rfl⟩) | (go_at_call 63; refine (forwardP_any _ _ (by omega) (by omega)).mono ?_; rintro e w' ⟨rfl, rfl⟩))
        go_ret
        exact ⟨by rw [Hmay.out, hrr.out]; rfl, hS.below⟩
      case false =>
        have hrr := Lib.hid (show rightsB p 2 = true by rw [Hrs.out, qb, q1, q2]; rfl)
        go_wp2_with (first | (go_at_call 62; refine (rightP_1 _).mono ?_; rintro e w' ⟨rfl, rfl⟩) | (go_at_call 63; refine (forwardP_any _ _ (by omega) (by omega)).mono ?_; rintro e w' ⟨rfl, rfl⟩))
        go_roundg (2)
        case measure => have := Hg.out; omega
        case rel => exact ⟨2, by omega, rfl, by go_num, hrr.out, hS⟩
    · subst hk2
      have h0 := (hBr.below hS.below hBr.lt).cell 60 (by omega)
      have h1 := (hBr.below hS.below hBr.lt).cell 63 (by omega)
      have hbit := bits_one (p.castle / 4) (by omega) (by omega)
      have hrs : rightsB p 3 = !(((p.castle / 4) % 2 == 1) && ((p.L 60 != -6) || (p.L 63 != -4))) := by
        rw [show 3 = 2 + 1 from rfl, rightsB_succ, hrt, Bool.true_and]; simp [rightB, homeN, tourN, hueN]
      rw [← hbit] at hrs
      have Hrs := Lib.hid hrs
      clear hrs hbit
      cases qb : (bits BinOp.and IntKind.i64 (p.castle / 4) 1 == 1)
      case false =>
        have hrr := Lib.hid (show rightsB p 3 = true by rw [Hrs.out, qb]; rfl)
        go_wp2_with (first | (go_at_call 62; refine (rightP_2 _).mono ?_; rintro e w' ⟨rfl, rfl⟩) | (go_at_call 63; refine (forwardP_any _ _ (by omega) (by omega)).mono ?_; rintro e w' ⟨rfl, rfl⟩))
        go_roundg (1)
        case measure => have := Hg.out; omega
        case rel => exact ⟨3, by omega, rfl, by go_num, hrr.out, hS⟩
      case true =>
      cases q1 : (p.L 60 != -6)
      case true =>
        have hrr := Lib.hid (Hrb.out 3 (by omega) (by rw [Hrs.out, qb, q1]; rfl))
        go_wp2_with (first | (go_at_call 62; refine (rightP_2 _).mono ?_; rintro e w' ⟨rfl, rfl⟩) | (go_at_call 63; refine (forwardP_any _ _ (by omega) (by omega)).mono ?_; rintro e w' ⟨rfl, rfl⟩))
        go_ret
        exact ⟨by rw [Hmay.out, hrr.out]; rfl, hS.below⟩
      case false =>
      cases q2 : (p.L 63 != -4)
      case true =>
        have hrr := Lib.hid (Hrb.out 3 (by omega) (by rw [Hrs.out, qb, q1, q2]; rfl))
        go_wp2_with (first | (go_at_call 62; refine (rightP_2 _).mono ?_; rintro e w' ⟨rfl, rfl⟩) | (go_at_call 63; refine (forwardP_any _ _ (by omega) (by omega)).mono ?_; rintro e w' ⟨rfl, rfl⟩))
        go_ret
        exact ⟨by rw [Hmay.out, hrr.out]; rfl, hS.below⟩
      case false =>
        have hrr := Lib.hid (show rightsB p 3 = true by rw [Hrs.out, qb, q1, q2]; rfl)
        go_wp2_with (first | (go_at_call 62; refine (rightP_2 _).mono ?_; rintro e w' ⟨rfl, rfl⟩) | (go_at_call 63; refine (forwardP_any _ _ (by omega) (by omega)).mono ?_; rintro e w' ⟨rfl, rfl⟩))
        go_roundg (1)
        case measure => have := Hg.out; omega
        case rel => exact ⟨3, by omega, rfl, by go_num, hrr.out, hS⟩
    · subst hk3
      have h0 := (hBr.below hS.below hBr.lt).cell 60 (by omega)
      have h1 := (hBr.below hS.below hBr.lt).cell 56 (by omega)
      have hbit := bits_one (p.castle / 8) (by omega) (by omega)
      have hrs : rightsB p 4 = !(((p.castle / 8) % 2 == 1) && ((p.L 60 != -6) || (p.L 56 != -4))) := by
        rw [show 4 = 3 + 1 from rfl, rightsB_succ, hrt, Bool.true_and]; simp [rightB, homeN, tourN, hueN]
      rw [← hbit] at hrs
      have Hrs := Lib.hid hrs
      clear hrs hbit
      cases qb : (bits BinOp.and IntKind.i64 (p.castle / 8) 1 == 1)
      case false =>
        have hrr := Lib.hid (show rightsB p 4 = true by rw [Hrs.out, qb]; rfl)
        go_wp2_with (first | (go_at_call 62; refine (rightP_3 _).mono ?_; rintro e w' ⟨rfl, rfl⟩) | (go_at_call 63; refine (forwardP_any _ _ (by omega) (by omega)).mono ?_; rintro e w' ⟨rfl, rfl⟩))
        go_roundg (0)
        case measure => have := Hg.out; omega
        case rel => exact ⟨4, by omega, rfl, by go_num, hrr.out, hS⟩
      case true =>
      cases q1 : (p.L 60 != -6)
      case true =>
        have hrr := Lib.hid (Hrb.out 4 (by omega) (by rw [Hrs.out, qb, q1]; rfl))
        go_wp2_with (first | (go_at_call 62; refine (rightP_3 _).mono ?_; rintro e w' ⟨rfl, rfl⟩) | (go_at_call 63; refine (forwardP_any _ _ (by omega) (by omega)).mono ?_; rintro e w' ⟨rfl, rfl⟩))
        go_ret
        exact ⟨by rw [Hmay.out, hrr.out]; rfl, hS.below⟩
      case false =>
      cases q2 : (p.L 56 != -4)
      case true =>
        have hrr := Lib.hid (Hrb.out 4 (by omega) (by rw [Hrs.out, qb, q1, q2]; rfl))
        go_wp2_with (first | (go_at_call 62; refine (rightP_3 _).mono ?_; rintro e w' ⟨rfl, rfl⟩) | (go_at_call 63; refine (forwardP_any _ _ (by omega) (by omega)).mono ?_; rintro e w' ⟨rfl, rfl⟩))
        go_ret
        exact ⟨by rw [Hmay.out, hrr.out]; rfl, hS.below⟩
      case false =>
        have hrr := Lib.hid (show rightsB p 4 = true by rw [Hrs.out, qb, q1, q2]; rfl)
        go_wp2_with (first | (go_at_call 62; refine (rightP_3 _).mono ?_; rintro e w' ⟨rfl, rfl⟩) | (go_at_call 63; refine (forwardP_any _ _ (by omega) (by omega)).mono ?_; rintro e w' ⟨rfl, rfl⟩))
        go_roundg (0)
        case measure => have := Hg.out; omega
        case rel => exact ⟨4, by omega, rfl, by go_num, hrr.out, hS⟩
  case rest =>
  clear hS
  obtain ⟨hrt, hS⟩ := hcut
  have hmay := Hmay.out
  rw [hrt, Bool.true_and, mayEp_pass] at hmay
  clear Hmay hrt
  have Hmay := Lib.hid hmay
  clear hmay
  have p0 := hS.kP.cell (o := 0) rfl
  have p1 := hS.kP.cell (o := 1) rfl
  have p2 := hS.kP.cell (o := 2) rfl
  have p3 := hS.kP.cell (o := 3) rfl
  have p4 := hS.kP.cell (o := 4) rfl
  have p5 := hS.kP.cell (o := 5) rfl
  have hpt : p.turn = 0 ∨ p.turn = 1 := by omega
  have Hpt := Lib.hid hpt
  clear hpt
  cases e0 : (p.ep == -1)
  case true =>
    go_wp2
    go_ret
    exact ⟨by rw [Hmay.out, e0]; rfl, hS.below⟩
  case false =>
    go_wp2_with (go_at_call 64; refine (passantP_any b off cap p _ (hBr.below hS.below hBr.lt) Hpt.out).mono ?_; rintro e w1 ⟨rfl, hb1⟩)
    go_ret
    exact ⟨by rw [Hmay.out, e0]; rfl, (hS.trans hb1).below⟩

end Go.Proofs.YthffhhbbhjcdeaaGreatDoor
