/- WALKS: the reference's MoveDone. -/
import Derived.Test.YthffhhbbhjcdeaaGreatDoorA6
import Derived.StillTailTactics
import Derived.Deep.CutBlock
set_option linter.unusedVariables false
set_option linter.unusedSimpArgs false
namespace Go.Proofs.YthffhhbbhjcdeaaGreatDoor
open Go.RowKit
set_option maxRecDepth 100000

theorem castleS_bd {p : Pos} {m : Mv} {n : Nat} {c : Int} (h0 : 0 ≤ c) (h1 : c < 16) : 0 ≤ castleS p m n c ∧ castleS p m n c < 16 := by
  unfold castleS
  split
  · rename_i h
    have h2 := h.2
    have hp : (0 : Int) < 2 ^ n := Int.pow_pos (by omega)
    have : 1 ≤ c / 2 ^ n := by
      by_cases h3 : c / 2 ^ n < 1
      · have : 0 ≤ c / 2 ^ n := Int.ediv_nonneg h0 (by omega)
        have h4 : c / 2 ^ n = 0 := by omega
        rw [h4] at h2; simp at h2
      · omega
    have h5 : 2 ^ n * (c / 2 ^ n) ≤ c := Int.mul_ediv_self_le (by omega)
    have h6 : 2 ^ n * 1 ≤ 2 ^ n * (c / 2 ^ n) := Int.mul_le_mul_of_nonneg_left this (by omega)
    omega
  · exact ⟨h0, h1⟩
theorem castleA_bd {p : Pos} {m : Mv} (h0 : 0 ≤ p.castle) (h1 : p.castle < 16) (n : Nat) : 0 ≤ castleA p m n ∧ castleA p m n < 16 := by
  induction n with
  | zero => exact ⟨h0, h1⟩
  | succ n ih => exact castleS_bd ih.1 ih.2
theorem beq_of_int {a k : Nat} (h : ((a : Int) == (k : Int)) = true) : (a == k) = true := by simp at h ⊢; omega
theorem bne_of_int {a k : Nat} (h : ((a : Int) == (k : Int)) = false) : (a == k) = false := by simp at h ⊢; omega

theorem wp_still_tail_drew {P : Program} {id : Nat} {Q : Exit → Act → World → Prop} {a : Act} {w : World} {l : List Oper} (n : Nat) (hm : P.follows .mixedOrders = true) (hB : Region.lexTailB .any l.toArray n = true)
    (h : ∀ wd : World, wd = w.drew → wpStill P l.toArray wd (fun a' => wpList P l.toArray Q (l.drop n) a' wd) (l.take n) a) : (Code.region id l.toArray true).wp P Q a w := wp_region_still_tail n hm hB (h _ rfl)

set_option maxHeartbeats 8000000 in
theorem moveDone_any (b off cap : Nat) (p : Pos) (m : Mv) (w : World) (hbr : Brd w b off p.L) (hs : p.turn = 0 ∨ p.turn = 1) (hc0 : 0 ≤ p.castle) (hc1 : p.castle < 16)
    (hh0 : 0 ≤ p.half) (hh1 : p.half ≤ 999) (hu0 : 1 ≤ p.full) (hu1 : p.full ≤ 999) (hep : p.ep < 0 ∨ 8 ≤ p.ep ∧ p.ep < 56) (hf : m.fr < 64) (ht : m.tg < 64) (hi0 : 0 ≤ m.into) (hi5 : m.into ≤ 5) :
    Calls Tryz.prog 32 #[chessV b off cap p, mvV m] w fun e w' => ∃ g cq, e = .returned (chessV g 0 cq (doneR p m)) ∧ OwnB w' g (doneL p m) ∧ w.heap.size ≤ g ∧ Below w.heap.size w w' := by
  have hlt := hbr.lt
  unfold chessV mvV
  go_enter Tryz.func32, Tryz.ntmps32
  go_upto_region 1 with fail
  generalize hW0 : World.alloc _ _ = W0
  have hP : Blk W0 w.heap.size #[.slice (some ⟨b, off, none⟩) 64 cap, .int .i64 p.turn, .int .i64 p.castle, .int .i64 p.ep, .int .i64 p.half, .int .i64 p.full] := by rw [← hW0]; exact ((Blk.new w _ _).alloc _).alloc _
  have hM : Blk W0 (w.heap.size + 1) #[.int .i64 m.fr, .int .i64 m.tg, .int .i64 m.into] := by rw [← hW0]; exact (Blk.new' (by simp) _ _).alloc _
  have hR : Blk W0 (w.heap.size + 2) #[.slice none 0 0, .int .i64 0, .int .i64 0, .int .i64 0, .int .i64 0, .int .i64 0] := by rw [← hW0]; exact Blk.new' (by simp) _ _
  have hb : Below w.heap.size w W0 := by rw [← hW0]; exact (((Below.refl _ _).alloc (Nat.le_refl _) _).alloc (by simp) _).alloc (by simp; omega) _
  have hsz : W0.heap.size = w.heap.size + 3 := by rw [← hW0]; simp
  clear hW0
  have HZ := Lib.hid hsz
  clear hsz
  go_cut [5] from 14 to 14 (fun s5 wx => ∃ Q g cq, s5 = .pointer (some ⟨Q, 0, none⟩) ∧ MDS w wx b off cap p m Q g cq p.L p.turn p.castle p.ep p.half p.full)
  case first =>
    have p0 := hP.cell (o := 0) rfl
    have p1 := hP.cell (o := 1) rfl
    have p2 := hP.cell (o := 2) rfl
    have p3 := hP.cell (o := 3) rfl
    have p4 := hP.cell (o := 4) rfl
    have p5 := hP.cell (o := 5) rfl
    go_wp2_with fail
    refine (chessOf_any b off 64 cap p.L _ _ _ _ _ _ (by have := HZ.out; omega) (by omega) (fun i hi => (hbr.below hb hlt).cell i hi)).mono ?_
    rintro e w1 ⟨v, rfl, hown, hb1⟩
    obtain ⟨g, cq, rfl, hg, hB⟩ := ownB_of_row hown (fun i hi => intsV_get hi)
    rw [HZ.out] at hg hb1
    have hP1 := hP.below hb1 (by omega)
    have hM1 := hM.below hb1 (by omega)
    have hR1 := hR.below hb1 (by omega)
    have hsz1 := hb1.size
    clear p0 p1 p2 p3 p4 p5 hown
    go_wp2
    go_meet
    have hsz0 := HZ.out
    have hglt := hB.lt
    refine ⟨w1.heap.size, g, cq, rfl, hP1.alloc _, hM1.alloc _, hR1.alloc _, Blk.new' rfl _ _, hB.alloc _, (hb.trans (hb1.mono (by omega))).alloc (by omega) _, by omega, by omega, by omega⟩
  case rest =>
  obtain ⟨Q, g, cq, rfl, hS⟩ := hcut
  clear hP hM hR hb
  go_upto_region 2 with fail
  go_cut [6] from 14 to 14 (fun s6 wx => s6 = .int .i64 (1 - 2 * p.turn) ∧ MDS w wx b off cap p m Q g cq p.L p.turn p.castle p.ep p.half p.full)
  case first =>
    have p1 := hS.kP.cell (o := 1) rfl
    go_wp2_with (go_at_call 57; refine (sideSign_any _ _ (by omega) (by omega)).mono ?_; rintro e w' ⟨rfl, rfl⟩)
    go_meet
    exact ⟨rfl, hS⟩
  case rest =>
  obtain ⟨rfl, hS⟩ := hcut
  have hcc : 1 - 2 * p.turn = 1 ∨ 1 - 2 * p.turn = -1 := by omega
  generalize hc : 1 - 2 * p.turn = c at *
  have Hc := Lib.hid hc
  have Hcc := Lib.hid hcc
  have hcb0 : -1 ≤ c := by omega
  have hcb1 : c ≤ 1 := by omega
  have hmb0 := (mul_bd hcc hi0 hi5).1
  have hmb1 := (mul_bd hcc hi0 hi5).2
  clear hc hcc
  go_upto_region 3 with fail
  go_cut [7] from 14 to 14 (fun s7 wx => s7 = .int .i64 (p.L m.fr) ∧ MDS w wx b off cap p m Q g cq p.L p.turn p.castle p.ep p.half p.full)
  case first =>
    have p0 := hS.kP.cell (o := 0) rfl
    have m0 := hS.kM.cell (o := 0) rfl
    have hx := (hS.old hbr).cell m.fr hf
    go_wp2
    go_meet
    exact ⟨rfl, hS⟩
  case rest =>
  obtain ⟨rfl, hS⟩ := hcut
  generalize hx : p.L m.fr = x at *
  have hx0 : -6 ≤ x := by have := (hbr.bd m.fr).1; omega
  have hx1 : x ≤ 6 := by have := (hbr.bd m.fr).2; omega
  have Hx := Lib.hid hx
  clear hx
  go_upto_region 4 with fail
  go_cut [8] from 14 to 14 (fun s8 wx => s8 = .bool (sizeI x == 1) ∧ MDS w wx b off cap p m Q g cq p.L p.turn p.castle p.ep p.half p.full)
  case first =>
    go_wp2_with (go_at_call 26; refine (size_any _ _ (by omega) (by omega)).mono ?_; rintro e w' ⟨rfl, rfl⟩)
    go_meet
    exact ⟨rfl, hS⟩
  case rest =>
  obtain ⟨rfl, hS⟩ := hcut
  generalize hpw : (sizeI x == 1) = pw at *
  have Hpw := Lib.hid hpw
  clear hpw
  go_upto_region 5 with fail
  go_cut [] from 14 to 14 (fun  wx => MDS w wx b off cap p m Q g cq (upd p.L m.fr 0) p.turn p.castle p.ep p.half p.full)
  case first =>
    have q0 := hS.kQ.cell (o := 0) rfl
    have m0 := hS.kM.cell (o := 0) rfl
    have hcell := hS.kB.cell hf
    have hfree := hS.kB.free m.fr
    go_wp2
    go_meet
    exact hS.board hf 0
  case rest =>
  have hS := hcut
  go_upto_region 6 with fail
  go_cut [] from 14 to 14 (fun  wx => MDS w wx b off cap p m Q g cq (doneL1 p m) p.turn p.castle p.ep p.half p.full)
  case first =>
    have q0 := hS.kQ.cell (o := 0) rfl
    have m1 := hS.kM.cell (o := 1) rfl
    have hcell := hS.kB.cell ht
    have hfree := hS.kB.free m.tg
    go_wp2
    go_meet
    exact (by rw [doneL1, Hx.out]; exact hS.board ht x)
  case rest =>
  clear hS
  have hS := hcut
  clear hcut
  have m2 := hS.kM.cell (o := 2) rfl
  go_upto_if 41 with fail
  go_cut [] from 39 to 41 (fun  wx => MDS w wx b off cap p m Q g cq (doneL2 p m) p.turn p.castle p.ep p.half p.full)
  case first =>
    have q0 := hS.kQ.cell (o := 0) rfl
    have m1 := hS.kM.cell (o := 1) rfl
    have m2 := hS.kM.cell (o := 2) rfl
    have hcell := hS.kB.cell ht
    have hfree := hS.kB.free m.tg
    cases hI : decide (0 < m.into)
    case true =>
      go_wp2
      go_meet
      exact (by rw [doneL2, if_pos (by simpa using hI), Hc.out]; exact hS.board ht _)
    case false =>
      go_wp2
      go_meet
      exact (by rw [doneL2, if_neg (by simpa using hI)]; exact hS)
  case rest =>
  clear m2
  clear hS
  have hS := hcut
  clear hcut
  go_upto_region 9 with fail
  go_cut [58] from 14 to 14 (fun s58 wx => s58 = .bool (pw && ((m.tg : Int) == p.ep)) ∧ MDS w wx b off cap p m Q g cq (doneL2 p m) p.turn p.castle p.ep p.half p.full)
  case first =>
    have m1 := hS.kM.cell (o := 1) rfl
    have p3 := hS.kP.cell (o := 3) rfl
    cases pw
    all_goals
      go_wp2
      go_meet
      exact ⟨by simp, hS⟩
    skip
  case rest =>
  clear hS
  obtain ⟨rfl, hS⟩ := hcut
  go_upto_if 58 with fail
  go_cut [] from 58 to 58 (fun  wx => MDS w wx b off cap p m Q g cq (doneL3 p m) p.turn p.castle p.ep p.half p.full)
  case first =>
    have q0 := hS.kQ.cell (o := 0) rfl
    have m1 := hS.kM.cell (o := 1) rfl
    cases hI : (pw && ((m.tg : Int) == p.ep))
    case true =>
      have he : sizeI x = 1 ∧ (m.tg : Int) = p.ep := by rw [← Hpw.out] at hI; simpa using hI
      have h8 : ((m.tg : Int) - 8 * c).toNat < 64 := by have := Hcc.out; omega
      have h80 : 0 ≤ (m.tg : Int) - 8 * c := by have := Hcc.out; omega
      have h81 : (m.tg : Int) - 8 * c < 64 := by have := Hcc.out; omega
      have He := Lib.hid he
      clear he
      have hcell := hS.kB.cell h8
      have hfree := hS.kB.free ((m.tg : Int) - 8 * c).toNat
      go_wp2
      go_meet
      exact (by rw [doneL3, Hx.out, if_pos He.out, Hc.out]; exact hS.board h8 0)
    case false =>
      have he : ¬ (sizeI x = 1 ∧ (m.tg : Int) = p.ep) := by rw [← Hpw.out] at hI; simpa using hI
      have He := Lib.hid he
      clear he
      go_wp2
      go_meet
      exact (by rw [doneL3, Hx.out, if_neg He.out]; exact hS)
  case rest =>
  clear hS
  have hS := hcut
  clear hcut
  go_upto_region 11 with fail
  go_cut [78] from 14 to 14 (fun s78 wx => s78 = .bool ((sizeI x == 6) && (sizeI ((m.tg : Int) - m.fr) == 2)) ∧ MDS w wx b off cap p m Q g cq (doneL3 p m) p.turn p.castle p.ep p.half p.full)
  case first =>
    have m0 := hS.kM.cell (o := 0) rfl
    have m1 := hS.kM.cell (o := 1) rfl
    cases k1 : (sizeI x == 6)
    all_goals
      go_wp2_with (go_at_call 26; refine (size_any _ _ (by omega) (by omega)).mono ?_; rintro e w' ⟨rfl, rfl⟩)
      go_meet
      exact ⟨by simp [k1], hS⟩
    skip
  case rest =>
  clear hS
  obtain ⟨rfl, hS⟩ := hcut
  go_upto_if 78 with fail
  go_cut [] from 78 to 78 (fun  wx => MDS w wx b off cap p m Q g cq (doneL p m) p.turn p.castle p.ep p.half p.full)
  case first =>
    cases hI : ((sizeI x == 6) && (sizeI ((m.tg : Int) - m.fr) == 2))
    case false =>
      have he : ¬ (sizeI x = 6 ∧ sizeI ((m.tg : Int) - m.fr) = 2) := by simpa using hI
      have He := Lib.hid he
      clear he
      go_wp2
      go_meet
      exact (by rw [doneL, Hx.out, if_neg He.out]; exact hS)
    case true =>
      have he : sizeI x = 6 ∧ sizeI ((m.tg : Int) - m.fr) = 2 := by simpa using hI
      have He := Lib.hid he
      clear he
      have m0 := hS.kM.cell (o := 0) rfl
      have m1 := hS.kM.cell (o := 1) rfl
      go_upto_if 88 with fail
      go_cut [9] from 79 to 88 (fun s9 wx => s9 = .int .i64 (cornerN m : Nat) ∧ MDS w wx b off cap p m Q g cq (doneL3 p m) p.turn p.castle p.ep p.half p.full)
      case first =>
        by_cases hl : m.tg < m.fr
        · go_wp2
          go_meet
          exact ⟨by rw [cornerN, if_pos hl]; go_num, hS⟩
        · go_wp2
          go_meet
          exact ⟨by rw [cornerN, if_neg hl]; go_num, hS⟩
      case rest =>
      clear hS m0 m1
      obtain ⟨rfl, hS⟩ := hcut
      have hk : cornerN m < 64 := by unfold cornerN; split <;> omega
      generalize hkk : cornerN m = k at *
      have Hk := Lib.hid hkk
      clear hkk
      have m0 := hS.kM.cell (o := 0) rfl
      have m1 := hS.kM.cell (o := 1) rfl
      have q0 := hS.kQ.cell (o := 0) rfl
      have hj : (m.fr + m.tg) / 2 < 64 := by omega
      have hck := hS.kB.cell hk
      have hcj := hS.kB.cell hj
      have hfj := hS.kB.free ((m.fr + m.tg) / 2)
      go_upto_region 15 with fail
      go_cut [] from 93 to 93 (fun wx => MDS w wx b off cap p m Q g cq (upd (doneL3 p m) ((m.fr + m.tg) / 2) (doneL3 p m k)) p.turn p.castle p.ep p.half p.full)
      case first =>
        have hk' : (k : Int) < 64 := by omega
        have hj' : ((m.fr : Int) + m.tg) / 2 < 64 := by omega
        have hj0 : 0 ≤ ((m.fr : Int) + m.tg) / 2 := by omega
        have hj1 : (((m.fr : Int) + m.tg) / 2).toNat = (m.fr + m.tg) / 2 := by omega
        have e1 : IntKind.i64.wrap ((m.fr : Int) + m.tg) = (m.fr : Int) + m.tg := IntWalk.i64_in _ (by omega)
        have e3 : ((m.fr : Int) + m.tg).tdiv 2 = ((m.fr : Int) + m.tg) / 2 := Int.tdiv_eq_ediv_of_nonneg (by omega)
        have e2 : IntKind.i64.wrap (((m.fr : Int) + m.tg) / 2) = ((m.fr : Int) + m.tg) / 2 := IntWalk.i64_in _ (by omega)
        refine wp_still_tail_drew 14 (by kernel_rfl) (by kernel_rfl) ?_
        rintro _ rfl
        simp only [List.take_succ_cons, List.take_zero, List.drop_succ_cons, List.drop_zero]
        repeat still_step
        refine wpStill_nil ?_
        go_wp2
        go_meet
        exact (hS.board hj _).drew
      case rest =>
      clear m0 m1 q0 hck hcj hfj
      have hS := hcut
      have q0 := hS.kQ.cell (o := 0) rfl
      have hck := hS.kB.cell hk
      have hfk := hS.kB.free k
      go_wp2
      go_meet
      exact (by rw [doneL, Hx.out, if_pos He.out, Hk.out]; exact hS.board hk 0)
  case rest =>
  clear hS
  have hS := hcut
  clear hcut
  go_upto_region 17 with fail
  go_cut [] from 14 to 14 (fun  wx => MDS w wx b off cap p m Q g cq (doneL p m) (1 - p.turn) p.castle p.ep p.half p.full)
  case first =>
    have p1 := hS.kP.cell (o := 1) rfl
    have q1 := hS.kQ.cell (o := 1) rfl
    have fq1 := hS.kQ.free 1
    go_wp2
    go_meet
    exact hS.turn _
  case rest =>
  clear hS
  have hS := hcut
  clear hcut
  go_upto_region 18 with fail
  go_cut [] from 14 to 14 (fun  wx => MDS w wx b off cap p m Q g cq (doneL p m) (1 - p.turn) p.castle (-1) p.half p.full)
  case first =>
    have q3 := hS.kQ.cell (o := 3) rfl
    have fq3 := hS.kQ.free 3
    go_wp2
    go_meet
    exact hS.passant _
  case rest =>
  clear hS
  have hS := hcut
  clear hcut
  go_upto_region 19 with fail
  go_cut [125] from 14 to 14 (fun s125 wx => s125 = .bool (pw && (sizeI ((m.tg : Int) - m.fr) == 16)) ∧ MDS w wx b off cap p m Q g cq (doneL p m) (1 - p.turn) p.castle (-1) p.half p.full)
  case first =>
    have m0 := hS.kM.cell (o := 0) rfl
    have m1 := hS.kM.cell (o := 1) rfl
    cases pw
    all_goals
      go_wp2_with (go_at_call 26; refine (size_any _ _ (by omega) (by omega)).mono ?_; rintro e w' ⟨rfl, rfl⟩)
      go_meet
      exact ⟨by simp, hS⟩
    skip
  case rest =>
  clear hS
  obtain ⟨rfl, hS⟩ := hcut
  go_upto_if 125 with fail
  go_cut [] from 125 to 125 (fun  wx => MDS w wx b off cap p m Q g cq (doneL p m) (1 - p.turn) p.castle (epR p m) p.half p.full)
  case first =>
    have m0 := hS.kM.cell (o := 0) rfl
    have m1 := hS.kM.cell (o := 1) rfl
    have q3 := hS.kQ.cell (o := 3) rfl
    have fq3 := hS.kQ.free 3
    cases hI : (pw && (sizeI ((m.tg : Int) - m.fr) == 16))
    case false =>
      have he : ¬ (sizeI x = 1 ∧ sizeI ((m.tg : Int) - m.fr) = 16) := by rw [← Hpw.out] at hI; simpa using hI
      have He := Lib.hid he
      clear he
      go_wp2
      go_meet
      exact (by rw [epR, Hx.out, if_neg He.out]; exact hS)
    case true =>
      have he : sizeI x = 1 ∧ sizeI ((m.tg : Int) - m.fr) = 16 := by rw [← Hpw.out] at hI; simpa using hI
      have He := Lib.hid he
      clear he
      go_wp2
      go_meet
      exact (by rw [epR, Hx.out, if_pos He.out]; exact hS.passant _)
  case rest =>
  clear hS
  have hS := hcut
  clear hcut
  go_upto_region 21 with fail
  go_cut [10, 11] from 133 to 133 (fun s10 s11 wx => ∃ K, s10 = .slice (some ⟨K, 0, none⟩) 4 4 ∧ s11 = .slice (some ⟨K + 1, 0, none⟩) 4 4 ∧ Q < K ∧ g < K ∧ Blk wx K #[.int .i64 4, .int .i64 4, .int .i64 60, .int .i64 60] ∧ Blk wx (K + 1) #[.int .i64 7, .int .i64 0, .int .i64 63, .int .i64 56] ∧ MDS w wx b off cap p m Q g cq (doneL p m) (1 - p.turn) p.castle (epR p m) p.half p.full)
  case first =>
    go_wp2
    go_meet
    exact ⟨wc.heap.size, rfl, rfl, hS.kQ.lt, hS.kB.lt, (Blk.new _ _ _).alloc _, Blk.new' (by simp) _ _, (hS.alloc _).alloc _⟩
  case rest =>
  clear hS
  obtain ⟨K, rfl, rfl, hKQ, hKg, hK0, hK1, hS⟩ := hcut
  go_upto_block 0 with fail
  go_cut [] from 135 to 188 (fun wx => MDS w wx b off cap p m Q g cq (doneL p m) (1 - p.turn) (castleA p m 4) (epR p m) p.half p.full)
  case first =>
    go_wp2_with fail
    go_loopg [12] 4 (fun gh s12 wx => ∃ n : Nat, n ≤ 4 ∧ gh = 4 - n ∧ s12 = .int .i64 n ∧ Blk wx K #[.int .i64 4, .int .i64 4, .int .i64 60, .int .i64 60] ∧ Blk wx (K + 1) #[.int .i64 7, .int .i64 0, .int .i64 63, .int .i64 56] ∧ MDS w wx b off cap p m Q g cq (doneL p m) (1 - p.turn) (castleA p m n) (epR p m) p.half p.full)
    case atStart => exact ⟨0, by omega, rfl, rfl, hK0, hK1, hS⟩
    case round =>
    clear hK0 hK1 hS
    obtain ⟨n, hn, hg, rfl, hK0, hK1, hS⟩ := hrel
    have Hg := Lib.hid hg
    clear hg
    obtain ⟨ca0, ca1⟩ := castleA_bd hc0 hc1 n (p := p) (m := m)
    have hcs : n = 0 ∨ n = 1 ∨ n = 2 ∨ n = 3 ∨ n = 4 := by omega
    rcases hcs with rfl | rfl | rfl | rfl | rfl
    · generalize hca : castleA p m 0 = ca at *
      have Hca := Lib.hid hca
      clear hca
      go_upto_region 25 with fail
      go_cut [13] from 139 to 173 (fun s13 wx => s13 = .bool (lostB p m 0) ∧ Blk wx K #[.int .i64 4, .int .i64 4, .int .i64 60, .int .i64 60] ∧ Blk wx (K + 1) #[.int .i64 7, .int .i64 0, .int .i64 63, .int .i64 56] ∧ MDS w wx b off cap p m Q g cq (doneL p m) (1 - p.turn) ca (epR p m) p.half p.full)
      case first =>
        have m0 := hS.kM.cell (o := 0) rfl
        have m1 := hS.kM.cell (o := 1) rfl
        have p1 := hS.kP.cell (o := 1) rfl
        have r0 := hK1.cell (o := 0) rfl
        have r1 := hK0.cell (o := 0) rfl
        cases e1 : ((m.fr : Int) == 7)
        case true => (go_wp2_with fail; go_quiet ((go_at_call 26; exact quiet_retW (size_any _ _ (by omega) (by omega)))); go_wp2; go_meet); exact ⟨by simp [lostB, rookN, Hx.out, beq_of_int e1], hK0, hK1, hS.drewN _⟩
        cases e2 : ((m.tg : Int) == 7)
        case true => (go_wp2_with fail; go_quiet ((go_at_call 26; exact quiet_retW (size_any _ _ (by omega) (by omega)))); go_wp2; go_meet); exact ⟨by simp [lostB, rookN, Hx.out, beq_of_int e2], hK0, hK1, hS.drewN _⟩
        cases e3 : (sizeI x == 6)
        case false => (go_wp2_with fail; go_quiet ((go_at_call 26; exact quiet_retW (size_any _ _ (by omega) (by omega)))); go_wp2; go_meet); exact ⟨by simp [lostB, rookN, Hx.out, bne_of_int e1, bne_of_int e2, e3], hK0, hK1, hS.drewN _⟩
        cases e4 : ((0 : Int) == p.turn)
        case true => (go_wp2_with fail; go_quiet ((go_at_call 26; exact quiet_retW (size_any _ _ (by omega) (by omega)))); go_wp2; go_meet); exact ⟨by simp [lostB, rookN, Hx.out, e3, e4], hK0, hK1, hS.drewN _⟩
        case false => (go_wp2_with fail; go_quiet ((go_at_call 26; exact quiet_retW (size_any _ _ (by omega) (by omega)))); go_wp2; go_meet); exact ⟨by simp [lostB, rookN, Hx.out, bne_of_int e1, bne_of_int e2, e3, e4], hK0, hK1, hS.drewN _⟩
      case rest =>
      clear hS hK0 hK1
      obtain ⟨rfl, hK0, hK1, hS⟩ := hcut
      generalize hlb : lostB p m 0 = lb at *
      have Hlb := Lib.hid hlb
      clear hlb
      have hbit := bits_one (ca) (by omega) (by omega)
      have Hbit := Lib.hid hbit
      clear hbit
      have q2 := hS.kQ.cell (o := 2) rfl
      have fq2 := hS.kQ.free 2
      have e1 : IntKind.i64.wrap (ca - 1) = ca - 1 := IntWalk.i64_in _ (by omega)
      cases lb
      case false =>
        go_wp2
        go_roundg (4 - 1)
        case measure => have := Hg.out; omega
        case rel => exact ⟨1, by omega, rfl, rfl, hK0, hK1, by rw [castleA, Hca.out, castleS, Hlb.out, if_neg (by simp)]; exact hS⟩
      case true =>
        cases hb : (bits BinOp.and IntKind.i64 (ca) 1 == 1)
        case false =>
          go_wp2
          go_roundg (4 - 1)
          case measure => have := Hg.out; omega
          case rel =>
            refine ⟨1, by omega, rfl, rfl, hK0, hK1, ?_⟩
            rw [Hbit.out] at hb
            rw [castleA, Hca.out, castleS, Hlb.out, if_neg (by simpa using hb)]; exact hS
        case true =>
          go_upto_region 27 with fail
          refine wp_still_tail_drew 6 (by kernel_rfl) (by kernel_rfl) ?_
          rintro _ rfl
          simp only [List.take_succ_cons, List.take_zero, List.drop_succ_cons, List.drop_zero]
          repeat still_step
          refine wpStill_nil ?_
          go_wp2
          go_roundg (4 - 1)
          case measure => have := Hg.out; omega
          case rel =>
            refine ⟨1, by omega, rfl, rfl, (hK0.other (by omega) _ _).drew, (hK1.other (by omega) _ _).drew, ?_⟩
            rw [Hbit.out] at hb
            rw [castleA, Hca.out, castleS, Hlb.out, if_pos (by simpa using hb)]; exact (hS.castle _).drew
    · generalize hca : castleA p m 1 = ca at *
      have Hca := Lib.hid hca
      clear hca
      go_upto_region 25 with fail
      go_cut [13] from 139 to 173 (fun s13 wx => s13 = .bool (lostB p m 1) ∧ Blk wx K #[.int .i64 4, .int .i64 4, .int .i64 60, .int .i64 60] ∧ Blk wx (K + 1) #[.int .i64 7, .int .i64 0, .int .i64 63, .int .i64 56] ∧ MDS w wx b off cap p m Q g cq (doneL p m) (1 - p.turn) ca (epR p m) p.half p.full)
      case first =>
        have m0 := hS.kM.cell (o := 0) rfl
        have m1 := hS.kM.cell (o := 1) rfl
        have p1 := hS.kP.cell (o := 1) rfl
        have r0 := hK1.cell (o := 1) rfl
        have r1 := hK0.cell (o := 1) rfl
        cases e1 : ((m.fr : Int) == 0)
        case true => (go_wp2_with fail; go_quiet ((go_at_call 26; exact quiet_retW (size_any _ _ (by omega) (by omega)))); go_wp2; go_meet); exact ⟨by simp [lostB, rookN, Hx.out, beq_of_int e1], hK0, hK1, hS.drewN _⟩
        cases e2 : ((m.tg : Int) == 0)
        case true => (go_wp2_with fail; go_quiet ((go_at_call 26; exact quiet_retW (size_any _ _ (by omega) (by omega)))); go_wp2; go_meet); exact ⟨by simp [lostB, rookN, Hx.out, beq_of_int e2], hK0, hK1, hS.drewN _⟩
        cases e3 : (sizeI x == 6)
        case false => (go_wp2_with fail; go_quiet ((go_at_call 26; exact quiet_retW (size_any _ _ (by omega) (by omega)))); go_wp2; go_meet); exact ⟨by simp [lostB, rookN, Hx.out, bne_of_int e1, bne_of_int e2, e3], hK0, hK1, hS.drewN _⟩
        cases e4 : ((0 : Int) == p.turn)
        case true => (go_wp2_with fail; go_quiet ((go_at_call 26; exact quiet_retW (size_any _ _ (by omega) (by omega)))); go_wp2; go_meet); exact ⟨by simp [lostB, rookN, Hx.out, e3, e4], hK0, hK1, hS.drewN _⟩
        case false => (go_wp2_with fail; go_quiet ((go_at_call 26; exact quiet_retW (size_any _ _ (by omega) (by omega)))); go_wp2; go_meet); exact ⟨by simp [lostB, rookN, Hx.out, bne_of_int e1, bne_of_int e2, e3, e4], hK0, hK1, hS.drewN _⟩
      case rest =>
      clear hS hK0 hK1
      obtain ⟨rfl, hK0, hK1, hS⟩ := hcut
      generalize hlb : lostB p m 1 = lb at *
      have Hlb := Lib.hid hlb
      clear hlb
      have hbit := bits_one (ca / 2) (by omega) (by omega)
      have Hbit := Lib.hid hbit
      clear hbit
      have q2 := hS.kQ.cell (o := 2) rfl
      have fq2 := hS.kQ.free 2
      have e1 : IntKind.i64.wrap (ca - 2) = ca - 2 := IntWalk.i64_in _ (by omega)
      cases lb
      case false =>
        go_wp2
        go_roundg (4 - 2)
        case measure => have := Hg.out; omega
        case rel => exact ⟨2, by omega, rfl, rfl, hK0, hK1, by rw [castleA, Hca.out, castleS, Hlb.out, if_neg (by simp)]; exact hS⟩
      case true =>
        cases hb : (bits BinOp.and IntKind.i64 (ca / 2) 1 == 1)
        case false =>
          go_wp2
          go_roundg (4 - 2)
          case measure => have := Hg.out; omega
          case rel =>
            refine ⟨2, by omega, rfl, rfl, hK0, hK1, ?_⟩
            rw [Hbit.out] at hb
            rw [castleA, Hca.out, castleS, Hlb.out, if_neg (by simpa using hb)]; exact hS
        case true =>
          go_upto_region 27 with fail
          refine wp_still_tail_drew 6 (by kernel_rfl) (by kernel_rfl) ?_
          rintro _ rfl
          simp only [List.take_succ_cons, List.take_zero, List.drop_succ_cons, List.drop_zero]
          repeat still_step
          refine wpStill_nil ?_
          go_wp2
          go_roundg (4 - 2)
          case measure => have := Hg.out; omega
          case rel =>
            refine ⟨2, by omega, rfl, rfl, (hK0.other (by omega) _ _).drew, (hK1.other (by omega) _ _).drew, ?_⟩
            rw [Hbit.out] at hb
            rw [castleA, Hca.out, castleS, Hlb.out, if_pos (by simpa using hb)]; exact (hS.castle _).drew
    · generalize hca : castleA p m 2 = ca at *
      have Hca := Lib.hid hca
      clear hca
      go_upto_region 25 with fail
      go_cut [13] from 139 to 173 (fun s13 wx => s13 = .bool (lostB p m 2) ∧ Blk wx K #[.int .i64 4, .int .i64 4, .int .i64 60, .int .i64 60] ∧ Blk wx (K + 1) #[.int .i64 7, .int .i64 0, .int .i64 63, .int .i64 56] ∧ MDS w wx b off cap p m Q g cq (doneL p m) (1 - p.turn) ca (epR p m) p.half p.full)
      case first =>
        have m0 := hS.kM.cell (o := 0) rfl
        have m1 := hS.kM.cell (o := 1) rfl
        have p1 := hS.kP.cell (o := 1) rfl
        have r0 := hK1.cell (o := 2) rfl
        have r1 := hK0.cell (o := 2) rfl
        cases e1 : ((m.fr : Int) == 63)
        case true => (go_wp2_with fail; go_quiet ((go_at_call 26; exact quiet_retW (size_any _ _ (by omega) (by omega)))); go_wp2; go_meet); exact ⟨by simp [lostB, rookN, Hx.out, beq_of_int e1], hK0, hK1, hS.drewN _⟩
        cases e2 : ((m.tg : Int) == 63)
        case true => (go_wp2_with fail; go_quiet ((go_at_call 26; exact quiet_retW (size_any _ _ (by omega) (by omega)))); go_wp2; go_meet); exact ⟨by simp [lostB, rookN, Hx.out, beq_of_int e2], hK0, hK1, hS.drewN _⟩
        cases e3 : (sizeI x == 6)
        case false => (go_wp2_with fail; go_quiet ((go_at_call 26; exact quiet_retW (size_any _ _ (by omega) (by omega)))); go_wp2; go_meet); exact ⟨by simp [lostB, rookN, Hx.out, bne_of_int e1, bne_of_int e2, e3], hK0, hK1, hS.drewN _⟩
        cases e4 : ((1 : Int) == p.turn)
        case true => (go_wp2_with fail; go_quiet ((go_at_call 26; exact quiet_retW (size_any _ _ (by omega) (by omega)))); go_wp2; go_meet); exact ⟨by simp [lostB, rookN, Hx.out, e3, e4], hK0, hK1, hS.drewN _⟩
        case false => (go_wp2_with fail; go_quiet ((go_at_call 26; exact quiet_retW (size_any _ _ (by omega) (by omega)))); go_wp2; go_meet); exact ⟨by simp [lostB, rookN, Hx.out, bne_of_int e1, bne_of_int e2, e3, e4], hK0, hK1, hS.drewN _⟩
      case rest =>
      clear hS hK0 hK1
      obtain ⟨rfl, hK0, hK1, hS⟩ := hcut
      generalize hlb : lostB p m 2 = lb at *
      have Hlb := Lib.hid hlb
      clear hlb
      have hbit := bits_one (ca / 4) (by omega) (by omega)
      have Hbit := Lib.hid hbit
      clear hbit
      have q2 := hS.kQ.cell (o := 2) rfl
      have fq2 := hS.kQ.free 2
      have e1 : IntKind.i64.wrap (ca - 4) = ca - 4 := IntWalk.i64_in _ (by omega)
      cases lb
      case false =>
        go_wp2
        go_roundg (4 - 3)
        case measure => have := Hg.out; omega
        case rel => exact ⟨3, by omega, rfl, rfl, hK0, hK1, by rw [castleA, Hca.out, castleS, Hlb.out, if_neg (by simp)]; exact hS⟩
      case true =>
        cases hb : (bits BinOp.and IntKind.i64 (ca / 4) 1 == 1)
        case false =>
          go_wp2
          go_roundg (4 - 3)
          case measure => have := Hg.out; omega
          case rel =>
            refine ⟨3, by omega, rfl, rfl, hK0, hK1, ?_⟩
            rw [Hbit.out] at hb
            rw [castleA, Hca.out, castleS, Hlb.out, if_neg (by simpa using hb)]; exact hS
        case true =>
          go_upto_region 27 with fail
          refine wp_still_tail_drew 6 (by kernel_rfl) (by kernel_rfl) ?_
          rintro _ rfl
          simp only [List.take_succ_cons, List.take_zero, List.drop_succ_cons, List.drop_zero]
          repeat still_step
          refine wpStill_nil ?_
          go_wp2
          go_roundg (4 - 3)
          case measure => have := Hg.out; omega
          case rel =>
            refine ⟨3, by omega, rfl, rfl, (hK0.other (by omega) _ _).drew, (hK1.other (by omega) _ _).drew, ?_⟩
            rw [Hbit.out] at hb
            rw [castleA, Hca.out, castleS, Hlb.out, if_pos (by simpa using hb)]; exact (hS.castle _).drew
    · generalize hca : castleA p m 3 = ca at *
      have Hca := Lib.hid hca
      clear hca
      go_upto_region 25 with fail
      go_cut [13] from 139 to 173 (fun s13 wx => s13 = .bool (lostB p m 3) ∧ Blk wx K #[.int .i64 4, .int .i64 4, .int .i64 60, .int .i64 60] ∧ Blk wx (K + 1) #[.int .i64 7, .int .i64 0, .int .i64 63, .int .i64 56] ∧ MDS w wx b off cap p m Q g cq (doneL p m) (1 - p.turn) ca (epR p m) p.half p.full)
      case first =>
        have m0 := hS.kM.cell (o := 0) rfl
        have m1 := hS.kM.cell (o := 1) rfl
        have p1 := hS.kP.cell (o := 1) rfl
        have r0 := hK1.cell (o := 3) rfl
        have r1 := hK0.cell (o := 3) rfl
        cases e1 : ((m.fr : Int) == 56)
        case true => (go_wp2_with fail; go_quiet ((go_at_call 26; exact quiet_retW (size_any _ _ (by omega) (by omega)))); go_wp2; go_meet); exact ⟨by simp [lostB, rookN, Hx.out, beq_of_int e1], hK0, hK1, hS.drewN _⟩
        cases e2 : ((m.tg : Int) == 56)
        case true => (go_wp2_with fail; go_quiet ((go_at_call 26; exact quiet_retW (size_any _ _ (by omega) (by omega)))); go_wp2; go_meet); exact ⟨by simp [lostB, rookN, Hx.out, beq_of_int e2], hK0, hK1, hS.drewN _⟩
        cases e3 : (sizeI x == 6)
        case false => (go_wp2_with fail; go_quiet ((go_at_call 26; exact quiet_retW (size_any _ _ (by omega) (by omega)))); go_wp2; go_meet); exact ⟨by simp [lostB, rookN, Hx.out, bne_of_int e1, bne_of_int e2, e3], hK0, hK1, hS.drewN _⟩
        cases e4 : ((1 : Int) == p.turn)
        case true => (go_wp2_with fail; go_quiet ((go_at_call 26; exact quiet_retW (size_any _ _ (by omega) (by omega)))); go_wp2; go_meet); exact ⟨by simp [lostB, rookN, Hx.out, e3, e4], hK0, hK1, hS.drewN _⟩
        case false => (go_wp2_with fail; go_quiet ((go_at_call 26; exact quiet_retW (size_any _ _ (by omega) (by omega)))); go_wp2; go_meet); exact ⟨by simp [lostB, rookN, Hx.out, bne_of_int e1, bne_of_int e2, e3, e4], hK0, hK1, hS.drewN _⟩
      case rest =>
      clear hS hK0 hK1
      obtain ⟨rfl, hK0, hK1, hS⟩ := hcut
      generalize hlb : lostB p m 3 = lb at *
      have Hlb := Lib.hid hlb
      clear hlb
      have hbit := bits_one (ca / 8) (by omega) (by omega)
      have Hbit := Lib.hid hbit
      clear hbit
      have q2 := hS.kQ.cell (o := 2) rfl
      have fq2 := hS.kQ.free 2
      have e1 : IntKind.i64.wrap (ca - 8) = ca - 8 := IntWalk.i64_in _ (by omega)
      cases lb
      case false =>
        go_wp2
        go_roundg (4 - 4)
        case measure => have := Hg.out; omega
        case rel => exact ⟨4, by omega, rfl, rfl, hK0, hK1, by rw [castleA, Hca.out, castleS, Hlb.out, if_neg (by simp)]; exact hS⟩
      case true =>
        cases hb : (bits BinOp.and IntKind.i64 (ca / 8) 1 == 1)
        case false =>
          go_wp2
          go_roundg (4 - 4)
          case measure => have := Hg.out; omega
          case rel =>
            refine ⟨4, by omega, rfl, rfl, hK0, hK1, ?_⟩
            rw [Hbit.out] at hb
            rw [castleA, Hca.out, castleS, Hlb.out, if_neg (by simpa using hb)]; exact hS
        case true =>
          go_upto_region 27 with fail
          refine wp_still_tail_drew 6 (by kernel_rfl) (by kernel_rfl) ?_
          rintro _ rfl
          simp only [List.take_succ_cons, List.take_zero, List.drop_succ_cons, List.drop_zero]
          repeat still_step
          refine wpStill_nil ?_
          go_wp2
          go_roundg (4 - 4)
          case measure => have := Hg.out; omega
          case rel =>
            refine ⟨4, by omega, rfl, rfl, (hK0.other (by omega) _ _).drew, (hK1.other (by omega) _ _).drew, ?_⟩
            rw [Hbit.out] at hb
            rw [castleA, Hca.out, castleS, Hlb.out, if_pos (by simpa using hb)]; exact (hS.castle _).drew
    · go_wp2
      go_meet
      exact hS
  case rest =>
  clear hS hK0 hK1
  have hS := hcut
  clear hcut
  go_upto_region 28 with fail
  go_cut [] from 14 to 14 (fun  wx => MDS w wx b off cap p m Q g cq (doneL p m) (1 - p.turn) (castleA p m 4) (epR p m) (p.half + 1) p.full)
  case first =>
    have q4 := hS.kQ.cell (o := 4) rfl
    have fq4 := hS.kQ.free 4
    go_wp2
    go_meet
    exact hS.half _
  case rest =>
  clear hS
  have hS := hcut
  clear hcut
  have q4 := hS.kQ.cell (o := 4) rfl
  go_upto_if 195 with fail
  go_cut [] from 193 to 195 (fun  wx => MDS w wx b off cap p m Q g cq (doneL p m) (1 - p.turn) (castleA p m 4) (epR p m) (if p.half + 1 > 999 then 999 else p.half + 1) p.full)
  case first =>
    have q4 := hS.kQ.cell (o := 4) rfl
    have fq4 := hS.kQ.free 4
    by_cases hI : p.half + 1 > 999
    · go_wp2
      go_meet
      rw [if_pos hI]
      exact hS.half _
    · go_wp2
      go_meet
      rw [if_neg (by omega)]
      exact hS
  case rest =>
  clear q4
  clear hS
  have hS := hcut
  clear hcut
  go_upto_region 31 with fail
  go_cut [206] from 14 to 14 (fun s206 wx => s206 = .bool (pw || (p.L m.tg != 0)) ∧ MDS w wx b off cap p m Q g cq (doneL p m) (1 - p.turn) (castleA p m 4) (epR p m) (if p.half + 1 > 999 then 999 else p.half + 1) p.full)
  case first =>
    have p0 := hS.kP.cell (o := 0) rfl
    have m1 := hS.kM.cell (o := 1) rfl
    have hct := (hS.old hbr).cell m.tg ht
    cases pw
    all_goals
      go_wp2
      go_meet
      exact ⟨by simp, hS⟩
    skip
  case rest =>
  clear hS
  obtain ⟨rfl, hS⟩ := hcut
  go_upto_if 206 with fail
  go_cut [] from 206 to 206 (fun  wx => MDS w wx b off cap p m Q g cq (doneL p m) (1 - p.turn) (castleA p m 4) (epR p m) (halfR p m) p.full)
  case first =>
    have q4 := hS.kQ.cell (o := 4) rfl
    have fq4 := hS.kQ.free 4
    cases hI : (pw || (p.L m.tg != 0))
    case false =>
      have he : ¬ (sizeI x = 1 ∨ p.L m.tg ≠ 0) := by rw [← Hpw.out] at hI; simpa using hI
      have He := Lib.hid he
      clear he
      go_wp2
      go_meet
      exact (by rw [halfR, Hx.out, if_neg He.out]; exact hS)
    case true =>
      have he : sizeI x = 1 ∨ p.L m.tg ≠ 0 := by rw [← Hpw.out] at hI; simpa using hI
      have He := Lib.hid he
      clear he
      go_wp2
      go_meet
      exact (by rw [halfR, Hx.out, if_pos He.out]; exact hS.half _)
  case rest =>
  clear hS
  have hS := hcut
  clear hcut
  go_upto_region 33 with fail
  go_cut [215] from 14 to 14 (fun s215 wx => s215 = .bool ((p.turn == 1) && decide (p.full < 999)) ∧ MDS w wx b off cap p m Q g cq (doneL p m) (1 - p.turn) (castleA p m 4) (epR p m) (halfR p m) p.full)
  case first =>
    have p1 := hS.kP.cell (o := 1) rfl
    have q5 := hS.kQ.cell (o := 5) rfl
    cases hI : (p.turn == 1)
    all_goals
      go_wp2
      go_meet
      exact ⟨by rw [hI]; rfl, hS⟩
    skip
  case rest =>
  clear hS
  obtain ⟨rfl, hS⟩ := hcut
  go_upto_if 215 with fail
  go_cut [] from 215 to 215 (fun  wx => MDS w wx b off cap p m Q g cq (doneL p m) (1 - p.turn) (castleA p m 4) (epR p m) (halfR p m) (fullR p m))
  case first =>
    have q5 := hS.kQ.cell (o := 5) rfl
    have fq5 := hS.kQ.free 5
    cases hI : ((p.turn == 1) && decide (p.full < 999))
    case false =>
      have he : ¬ (p.turn = 1 ∧ p.full < 999) := by simpa using hI
      have He := Lib.hid he
      clear he
      go_wp2
      go_meet
      exact (by rw [fullR, if_neg He.out]; exact hS)
    case true =>
      have he : p.turn = 1 ∧ p.full < 999 := by simpa using hI
      have He := Lib.hid he
      clear he
      go_wp2
      go_meet
      exact (by rw [fullR, if_pos He.out]; exact hS.full _)
  case rest =>
  clear hS
  have hS := hcut
  clear hcut
  go_upto_region 35 with fail
  go_cut [] from 220 to 220 (fun wx => Blk wx (w.heap.size + 2) #[.slice (some ⟨g, 0, none⟩) 64 cq, .int .i64 (1 - p.turn), .int .i64 (castleA p m 4), .int .i64 (epR p m), .int .i64 (halfR p m), .int .i64 (fullR p m)] ∧ OwnB wx g (doneL p m) ∧ Below w.heap.size w wx)
  case first =>
    have q0 := hS.kQ.cell (o := 0) rfl
    have q1 := hS.kQ.cell (o := 1) rfl
    have q2 := hS.kQ.cell (o := 2) rfl
    have q3 := hS.kQ.cell (o := 3) rfl
    have q4 := hS.kQ.cell (o := 4) rfl
    have q5 := hS.kQ.cell (o := 5) rfl
    have r0 := hS.kR.cell (o := 0) rfl
    have fr0 := hS.kR.free 0
    have r1 := hS.kR.cell (o := 1) rfl
    have fr1 := hS.kR.free 1
    have r2 := hS.kR.cell (o := 2) rfl
    have fr2 := hS.kR.free 2
    have r3 := hS.kR.cell (o := 3) rfl
    have fr3 := hS.kR.free 3
    have r4 := hS.kR.cell (o := 4) rfl
    have fr4 := hS.kR.free 4
    have r5 := hS.kR.cell (o := 5) rfl
    have fr5 := hS.kR.free 5
    go_wp2
    go_meet
    have hg3 := hS.g3
    refine ⟨(((((hS.kR.set 0 _).set 1 _).set 2 _).set 3 _).set 4 _).set 5 _, ?_, ?_⟩
    · iterate 6 refine OwnB.other ?_ (by omega) _ _
      exact hS.kB
    · iterate 6 refine Below.setCell ?_ (by dsimp only; omega) _
      exact hS.below
  case rest =>
  have hg3 := hS.g3
  obtain ⟨hR2, hB2, hb2⟩ := hcut
  go_wp2
  exact bodyPost_ret (ret_chess rfl rfl hR2) rfl ⟨g, cq, rfl, hB2, by omega, hb2⟩

end Go.Proofs.YthffhhbbhjcdeaaGreatDoor
