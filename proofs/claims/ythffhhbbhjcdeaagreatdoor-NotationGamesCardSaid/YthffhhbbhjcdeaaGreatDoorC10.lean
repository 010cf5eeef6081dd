/- WALKS: the program's castles: the castlings are told. WALKS: the program's castles: the castlings are told. WALKS: the program's castles: the castlings are told. WALKS: the program's castles: the castlings are told. -/
import Derived.Test.YthffhhbbhjcdeaaGreatDoorC9
set_option linter.unusedVariables false
set_option linter.unusedSimpArgs false
namespace Go.Proofs.YthffhhbbhjcdeaaGreatDoor
open Go.RowKit
set_option maxRecDepth 100000

theorem castG_mem {p : Pos} (hm : MayP p) {n : Nat} (hn : n = 2 * p.turn.toNat ∨ n = 2 * p.turn.toNat + 1) (h : 0 ≤ castleToI p n) : Pseu p ⟨homeN n, (castleToI p n).toNat, 0⟩ := by
  refine (mem_genL hm).1 ?_
  unfold genL
  refine List.mem_append_right _ ?_
  show _ ∈ castAt p (2 * p.turn.toNat) ++ castAt p (2 * p.turn.toNat + 1)
  rcases hn with rfl | rfl
  · refine List.mem_append_left _ ?_
    unfold castAt; rw [if_neg (by omega)]; exact List.mem_singleton.2 rfl
  · refine List.mem_append_right _ ?_
    unfold castAt; rw [if_neg (by omega)]; exact List.mem_singleton.2 rfl
theorem cast_val {p : Pos} {n : Nat} (h : ((n / 2 : Nat) : Int) = p.turn) : castleToI p n = if p.castle / 2 ^ n % 2 = 0 then -1 else if (betweenN n).any (fun k => p.L k != 0) = true then -1 else if (safeN p n 0 && safeN p n 1 && safeN p n 2) = false then -1 else kingN n + 2 * wayN n := by
  unfold castleToI
  by_cases h0 : p.castle / 2 ^ n % 2 = 0
  · rw [if_pos (.inl h0), if_pos h0]
  · rw [if_neg (by rintro (h1 | h1); exact h0 h1; exact h1 h), if_neg h0]

structure CSS (n₀ : Nat) (w W wx : World) (b off cap : Nat) (p : Pos) (v : Value) (l : List Mv) : Prop where
  gs : GS n₀ w wx b off cap p v l
  fr : FrK (n₀ + 1) W wx
  kP : Blk wx W.heap.size #[.slice (some ⟨b, off, none⟩) 64 cap, .int .i64 p.turn, .int .i64 p.castle, .int .i64 p.ep, .int .i64 p.half, .int .i64 p.full]
  sf : Sf (n₀ + 1) wx W.heap.size
theorem CSS.later {n₀ : Nat} {w W wx w1 : World} {b off cap : Nat} {p : Pos} {v : Value} {l : List Mv} (h : CSS n₀ w W wx b off cap p v l) (hb : Below wx.heap.size wx w1) : CSS n₀ w W w1 b off cap p v l := by
  have h1 := h.gs.lt
  exact ⟨h.gs.later hb, h.fr.trans (FrK.of_below hb (by omega)), h.kP.below hb h.kP.lt, h.sf.below hb (by omega)⟩
theorem CSS.told {n₀ : Nat} {w W wx w1 : World} {b off cap : Nat} {p : Pos} {v v1 : Value} {l l1 : List Mv} (h : CSS n₀ w W wx b off cap p v l) (hG : GS n₀ w w1 b off cap p v1 l1) (hF : FrK (n₀ + 1) wx w1) : CSS n₀ w W w1 b off cap p v1 l1 := by
  obtain ⟨h1, h2⟩ := h.sf.kp hF.kp
  exact ⟨hG, h.fr.trans hF, h.kP.of_heap h2, h1⟩


end Go.Proofs.YthffhhbbhjcdeaaGreatDoor
namespace Go.Proofs.YthffhhbbhjcdeaaGreatDoor
open Go.RowKit
set_option maxRecDepth 100000

set_option maxHeartbeats 8000000 in
theorem castles_0 {n₀ b off cap : Nat} {w W : World} {p : Pos} {v : Value} {l : List Mv} (hm : MayP p) (hbr : Brd w b off p.L) (hbn : b < n₀) (hS : GS n₀ w W b off cap p v l) (hl : l.length ≤ 18900) (ht : p.turn = 0) :
    Calls Tryz.prog 77 #[chessV b off cap p, .func (.func 78) #[] #[.pointer (some ⟨n₀ + 2, 0, none⟩)]] W fun e w' => e = .returned (.tuple #[]) ∧ ∃ v', GS n₀ w w' b off cap p v' (l ++ (castG p 2).filter fun m => safeGo p m.fr m.tg) ∧ FrK (n₀ + 1) W w' := by
  have Ht := Lib.hid ht
  have hlt := hS.lt
  have Hm := Lib.hid hm
  have Hbr := Lib.hid hbr
  have c0 := hm.ok.c0
  have c1 := hm.ok.c1
  have hb0 : ∀ o, Below W.heap.size W (W.alloc o) := fun o => (Below.refl _ _).alloc (Nat.le_refl _) o
  have hol := hS.ol
  have hl2 : ∀ k, ((castG p k).filter fun m => safeGo p m.fr m.tg).length ≤ 2 := fun k => by
    refine Nat.le_trans (List.length_filter_le _ _) ?_
    have h1 : ∀ n, (castAt p n).length ≤ 1 := fun n => by unfold castAt; split <;> simp
    match k with
    | 0 => simp [castG]
    | 1 => exact Nat.le_trans (h1 _) (by omega)
    | k + 2 =>
      show (castAt p (2 * p.turn.toNat) ++ castAt p (2 * p.turn.toNat + 1)).length ≤ 2
      rw [List.length_append]
      have := h1 (2 * p.turn.toNat)
      have := h1 (2 * p.turn.toNat + 1)
      omega
  have HL := Lib.hid hl2
  clear hl2
  unfold chessV
  have hS0 : ∀ e, CSS n₀ w W (W.alloc (.cells #[.slice (some ⟨b, off, none⟩) 64 cap, .int .i64 p.turn, .int .i64 p.castle, .int .i64 p.ep, .int .i64 p.half, .int .i64 p.full] e)) b off cap p v (l ++ (castG p 0).filter fun m => safeGo p m.fr m.tg) := fun e =>
    ⟨by simpa [castG] using hS.later (hb0 _), FrK.of_below (hb0 _) (by omega), Blk.new _ _ _, Sf.new rfl (by omega) hol _ _⟩
  have HS0 := Lib.hid (hS0 24)
  clear hS0 hS hm hbr ht hol
  go_enter Tryz.func77, Tryz.ntmps77
  go_upto_region 1 with fail
  generalize hW0 : World.alloc _ _ = W0 at *
  replace HS0 := HS0.out
  clear hW0 hb0
  have p1 : W0.cell? ⟨W.heap.size, 1, none⟩ = some (.int .i64 0) := by rw [← Ht.out]; exact HS0.kP.cell rfl
  have HS0 := Lib.hid HS0
  go_wp2_with fail
  go_loopg [4, 5, 6, 7, 8, 9, 10] 2 (fun g s4 s5 s6 s7 s8 s9 s10 wr => ∃ (k : Nat) (v' : Value), k ≤ 2 ∧ g = 2 - k ∧ s4 = .int .i64 ((0 : Nat) + (k : Int)) ∧ CSS n₀ w W wr b off cap p v' (l ++ (castG p k).filter fun m => safeGo p m.fr m.tg))
  case atStart => exact ⟨0, v, by omega, rfl, rfl, HS0.out⟩
  case round =>
  clear p1 HS0
  obtain ⟨k, v', hk, hg, rfl, hS⟩ := hrel
  have Hg := Lib.hid hg
  clear hg
  have hle : (l ++ (castG p k).filter fun m => safeGo p m.fr m.tg).length ≤ 19000 := by
    rw [List.length_append]; have := HL.out k; omega
  have HLe := Lib.hid hle
  clear hle
  have p1 : wr.cell? ⟨W.heap.size, 1, none⟩ = some (.int .i64 0) := by rw [← Ht.out]; exact hS.kP.cell rfl
  have p0 := hS.kP.cell (o := 0) rfl
  have p2 := hS.kP.cell (o := 2) rfl
  have hks : k = 0 ∨ k = 1 ∨ k = 2 := by omega
  rcases hks with rfl | rfl | rfl
  · have hcv := cast_val (p := p) (n := 0) (by rw [Ht.out]; rfl)
    have hG1 : castG p 1 = castG p 0 ++ castAt p 0 := by
      have e : (2 * p.turn.toNat : Nat) = 0 := by rw [Ht.out]; rfl
      show castAt p (2 * p.turn.toNat) = _; rw [e]; rfl
    have HG1 := Lib.hid hG1
    clear hG1
    have hbit := bits_one p.castle (by omega) (by omega)
    have hbitk : bits BinOp.and IntKind.i64 0 1 = 0 := by decide
    have hcv2 : castleToI p 0 = if p.castle % 2 = 0 then -1 else if (betweenN 0).any (fun k => p.L k != 0) = true then -1 else if (safeN p 0 0 && safeN p 0 1 && safeN p 0 2) = false then -1 else 6 := by rw [hcv, show (2 : Int) ^ 0 = 1 from rfl, Int.ediv_one]; rfl
    rw [← hbit] at hcv2
    have Hcv := Lib.hid hcv2
    clear hcv hcv2 hbit
    cases qb : (bits BinOp.and IntKind.i64 p.castle 1 == 0)
    case true =>
      have hcm : castleToI p 0 = -1 := by rw [Hcv.out, if_pos (by simpa using qb)]
      have hca : castAt p 0 = [] := by unfold castAt; rw [hcm, if_pos (by decide)]
      clear hcm
      have Hca := Lib.hid hca
      clear hca
      go_wp2_with (go_at_call 62; refine (rightP_0 _).mono ?_; rintro e w' ⟨rfl, rfl⟩)
      go_roundg (1)
      case measure => have := Hg.out; omega
      case rel => exact ⟨1, v', by omega, rfl, by go_num, by rw [HG1.out, Hca.out, List.append_nil]; exact hS⟩
    case false =>
    have hq : ¬ bits BinOp.and IntKind.i64 p.castle 1 = 0 := by simpa using qb
    have hcv3 := Hcv.out
    rw [if_neg hq] at hcv3
    clear Hcv hq
    have Hcv := Lib.hid hcv3
    clear hcv3
    go_upto_block 2 with (go_at_call 62; refine (rightP_0 _).mono ?_; rintro e w' ⟨rfl, rfl⟩)
    go_cut [8, 9] from 40 to 54 (fun s8 s9 wx => wx = wr ∧ s8 = .bool (!(betweenN 0).any fun k => p.L k != 0))
    case first =>
      have hBr := Hbr.out.below hS.gs.below hbn
      have z5 := hBr.cell 5 (by omega)
      have z6 := hBr.cell 6 (by omega)
      clear hBr
      cases e5 : (p.L 5 == 0)
      case false =>
        go_wp2_with fail
        refine wp_loop_rounds 3 ?_
        rw [rounds_succ]
        go_wp2
        rw [rounds_succ]
        go_wp2
        rw [rounds_succ]
        go_wp2
        go_meet
        exact ⟨rfl, by simp [betweenN, bne, e5]⟩
      case true =>
      cases e6 : (p.L 6 == 0)
      case false =>
        go_wp2_with fail
        refine wp_loop_rounds 3 ?_
        rw [rounds_succ]
        go_wp2
        rw [rounds_succ]
        go_wp2
        rw [rounds_succ]
        go_wp2
        go_meet
        exact ⟨rfl, by simp [betweenN, bne, e5, e6]⟩
      case true =>
        go_wp2_with fail
        refine wp_loop_rounds 3 ?_
        rw [rounds_succ]
        go_wp2
        rw [rounds_succ]
        go_wp2
        rw [rounds_succ]
        go_wp2
        go_meet
        exact ⟨rfl, by simp [betweenN, bne, e5, e6]⟩
    case rest =>
    obtain ⟨rfl, rfl⟩ := hcut
    generalize hbt : (betweenN 0).any (fun k => p.L k != 0) = bt at *
    have Hbt := Lib.hid hbt
    clear hbt
    go_upto_block 4 with fail
    go_cut [8, 10] from 55 to 74 (fun s8 s10 wx => s8 = .bool (!bt && (safeN p 0 0 && safeN p 0 1 && safeN p 0 2)) ∧ CSS n₀ w W wx b off cap p v' (l ++ (castG p 0).filter fun m => safeGo p m.fr m.tg))
    case first =>
      cases bt
      case true =>
        go_wp2_with fail
        refine wp_loop_rounds 4 ?_
        rw [rounds_succ]
        go_wp2
        rw [rounds_succ]
        go_wp2
        rw [rounds_succ]
        go_wp2
        rw [rounds_succ]
        go_wp2
        go_meet
        exact ⟨rfl, hS⟩
      case false =>
        have hs0 : safeN p 0 0 = !decide (0 < (attackersL p.L 4 1 64).length) := by unfold safeN; rw [Ht.out]; rfl
        have Hs0 := Lib.hid hs0
        clear hs0
        have hs1 : safeN p 0 1 = !decide (0 < (attackersL p.L 5 1 64).length) := by unfold safeN; rw [Ht.out]; rfl
        have Hs1 := Lib.hid hs1
        clear hs1
        have hs2 : safeN p 0 2 = !decide (0 < (attackersL p.L 6 1 64).length) := by unfold safeN; rw [Ht.out]; rfl
        have Hs2 := Lib.hid hs2
        clear hs2
        generalize ha0 : (attackersL p.L 4 1 64).length = n0 at *
        have Ha0 := Lib.hid ha0
        clear ha0
        generalize ha1 : (attackersL p.L 5 1 64).length = n1 at *
        have Ha1 := Lib.hid ha1
        clear ha1
        generalize ha2 : (attackersL p.L 6 1 64).length = n2 at *
        have Ha2 := Lib.hid ha2
        clear ha2
        have HA0 : ∀ (w0 : World), Brd w0 b off p.L → Calls Tryz.prog 93 #[.slice (some ⟨b, off, none⟩) 64 cap, .int .i64 4, .int .i64 1] w0 (RetLen n0 w0) := fun w0 h2 => by rw [← Ha0.out]; exact attackersP_any b off cap p.L 4 1 w0 (by omega) h2
        have HA0 := Lib.hid HA0
        have HA1 : ∀ (w0 : World), Brd w0 b off p.L → Calls Tryz.prog 93 #[.slice (some ⟨b, off, none⟩) 64 cap, .int .i64 5, .int .i64 1] w0 (RetLen n1 w0) := fun w0 h2 => by rw [← Ha1.out]; exact attackersP_any b off cap p.L 5 1 w0 (by omega) h2
        have HA1 := Lib.hid HA1
        have HA2 : ∀ (w0 : World), Brd w0 b off p.L → Calls Tryz.prog 93 #[.slice (some ⟨b, off, none⟩) 64 cap, .int .i64 6, .int .i64 1] w0 (RetLen n2 w0) := fun w0 h2 => by rw [← Ha2.out]; exact attackersP_any b off cap p.L 6 1 w0 (by omega) h2
        have HA2 := Lib.hid HA2
        have hB0 := Hbr.out.below hS.gs.below hbn
        have HB0 := Lib.hid hB0
        clear hB0
        cases e0 : ((n0 : Int) == 0)
        case false =>
          go_wp2_with fail
          refine wp_loop_rounds 4 ?_
          rw [rounds_succ]
          go_wp2_with (go_at_call 93; refine (HA0.out _ HB0.out).mono ?_; rintro e w1 ⟨a0, cp0, rfl, hb0⟩)
          rw [rounds_succ]
          go_wp2
          rw [rounds_succ]
          go_wp2
          rw [rounds_succ]
          go_wp2
          go_meet
          have hnz : 0 < n0 := by simp at e0; omega
          exact ⟨by rw [Hs0.out, Hs1.out, Hs2.out]; simp [hnz], (hS.later hb0)⟩
        case true =>
        cases e1 : ((n1 : Int) == 0)
        case false =>
          go_wp2_with fail
          refine wp_loop_rounds 4 ?_
          rw [rounds_succ]
          go_wp2_with (go_at_call 93; refine (HA0.out _ HB0.out).mono ?_; rintro e w1 ⟨a0, cp0, rfl, hb0⟩)
          have hB1 := HB0.out.below hb0 (HB0.out).lt
          have p0_0 := (hS.later hb0).kP.cell (o := 0) rfl
          have p1_0 : w1.cell? ⟨W.heap.size, 1, none⟩ = some (.int .i64 0) := by rw [← Ht.out]; exact (hS.later hb0).kP.cell rfl
          rw [rounds_succ]
          go_wp2_with (go_at_call 93; refine (HA1.out _ hB1).mono ?_; rintro e w2 ⟨a1, cp1, rfl, hb1⟩)
          rw [rounds_succ]
          go_wp2
          rw [rounds_succ]
          go_wp2
          go_meet
          have hnz : 0 < n1 := by simp at e1; omega
          exact ⟨by rw [Hs0.out, Hs1.out, Hs2.out]; simp [hnz], ((hS.later hb0).later hb1)⟩
        case true =>
        cases e2 : ((n2 : Int) == 0)
        case false =>
          go_wp2_with fail
          refine wp_loop_rounds 4 ?_
          rw [rounds_succ]
          go_wp2_with (go_at_call 93; refine (HA0.out _ HB0.out).mono ?_; rintro e w1 ⟨a0, cp0, rfl, hb0⟩)
          have hB1 := HB0.out.below hb0 (HB0.out).lt
          have p0_0 := (hS.later hb0).kP.cell (o := 0) rfl
          have p1_0 : w1.cell? ⟨W.heap.size, 1, none⟩ = some (.int .i64 0) := by rw [← Ht.out]; exact (hS.later hb0).kP.cell rfl
          rw [rounds_succ]
          go_wp2_with (go_at_call 93; refine (HA1.out _ hB1).mono ?_; rintro e w2 ⟨a1, cp1, rfl, hb1⟩)
          have hB2 := hB1.below hb1 (hB1).lt
          have p0_1 := ((hS.later hb0).later hb1).kP.cell (o := 0) rfl
          have p1_1 : w2.cell? ⟨W.heap.size, 1, none⟩ = some (.int .i64 0) := by rw [← Ht.out]; exact ((hS.later hb0).later hb1).kP.cell rfl
          rw [rounds_succ]
          go_wp2_with (go_at_call 93; refine (HA2.out _ hB2).mono ?_; rintro e w3 ⟨a2, cp2, rfl, hb2⟩)
          rw [rounds_succ]
          go_wp2
          go_meet
          have hnz : 0 < n2 := by simp at e2; omega
          exact ⟨by rw [Hs0.out, Hs1.out, Hs2.out]; simp [hnz], (((hS.later hb0).later hb1).later hb2)⟩
        case true =>
          go_wp2_with fail
          refine wp_loop_rounds 4 ?_
          rw [rounds_succ]
          go_wp2_with (go_at_call 93; refine (HA0.out _ HB0.out).mono ?_; rintro e w1 ⟨a0, cp0, rfl, hb0⟩)
          have hB1 := HB0.out.below hb0 (HB0.out).lt
          have p0_0 := (hS.later hb0).kP.cell (o := 0) rfl
          have p1_0 : w1.cell? ⟨W.heap.size, 1, none⟩ = some (.int .i64 0) := by rw [← Ht.out]; exact (hS.later hb0).kP.cell rfl
          rw [rounds_succ]
          go_wp2_with (go_at_call 93; refine (HA1.out _ hB1).mono ?_; rintro e w2 ⟨a1, cp1, rfl, hb1⟩)
          have hB2 := hB1.below hb1 (hB1).lt
          have p0_1 := ((hS.later hb0).later hb1).kP.cell (o := 0) rfl
          have p1_1 : w2.cell? ⟨W.heap.size, 1, none⟩ = some (.int .i64 0) := by rw [← Ht.out]; exact ((hS.later hb0).later hb1).kP.cell rfl
          rw [rounds_succ]
          go_wp2_with (go_at_call 93; refine (HA2.out _ hB2).mono ?_; rintro e w3 ⟨a2, cp2, rfl, hb2⟩)
          rw [rounds_succ]
          go_wp2
          go_meet
          exact ⟨by rw [Hs0.out, Hs1.out, Hs2.out, show n0 = 0 by simpa using e0, show n1 = 0 by simpa using e1, show n2 = 0 by simpa using e2]; rfl, (((hS.later hb0).later hb1).later hb2)⟩
    case rest =>
    clear hS
    obtain ⟨rfl, hS⟩ := hcut
    generalize hsf : (safeN p 0 0 && safeN p 0 1 && safeN p 0 2) = sf at *
    have Hsf := Lib.hid hsf
    clear hsf
    cases hfree : (!bt && sf)
    case false =>
      have hcm : castleToI p 0 = -1 := by
        have h1 := Hcv.out
        cases bt <;> cases sf <;> first | (exact absurd hfree (by decide)) | (rw [h1]; rfl)
      have hca : castAt p 0 = [] := by unfold castAt; rw [hcm, if_pos (by decide)]
      clear hcm
      have Hca := Lib.hid hca
      clear hca
      go_wp2
      go_roundg (1)
      case measure => have := Hg.out; omega
      case rel => exact ⟨1, v', by omega, rfl, by go_num, by rw [HG1.out, Hca.out, List.append_nil]; exact hS⟩
    case true =>
      have hbf : bt = false ∧ sf = true := by cases bt <;> cases sf <;> simp at hfree ⊢
      have hto : castleToI p 0 = 6 := by
        have h1 := Hcv.out
        rw [hbf.1, hbf.2, if_neg (by decide), if_neg (by decide)] at h1
        exact h1
      have hP := castG_mem Hm.out (n := 0) (by rw [Ht.out]; decide) (by rw [hto]; decide)
      have hca : castAt p 0 = [⟨4, 6, 0⟩] := by unfold castAt; rw [hto, if_neg (by decide)]; rfl
      rw [hto] at hP
      have HC := Lib.hid (tellC_any Hm.out Hbr.out hbn hS.gs HLe.out hP)
      have Hca := Lib.hid hca
      clear hca hP hto hbf
      go_wp2_with (go_at_call 78; refine HC.out.mono ?_; rintro e w1 ⟨rfl, v1, hG1, hF1⟩)
      go_roundg (1)
      case measure => have := Hg.out; omega
      case rel => exact ⟨1, v1, by omega, rfl, by go_num, by rw [HG1.out, List.filter_append, ← List.append_assoc, Hca.out]; exact hS.told hG1 hF1⟩
  · have hcv := cast_val (p := p) (n := 1) (by rw [Ht.out]; rfl)
    have hG1 : castG p 2 = castG p 1 ++ castAt p 1 := by
      have e : (2 * p.turn.toNat : Nat) = 0 := by rw [Ht.out]; rfl
      show castAt p (2 * p.turn.toNat) ++ castAt p (2 * p.turn.toNat + 1) = castAt p (2 * p.turn.toNat) ++ _; rw [e]
    have HG1 := Lib.hid hG1
    clear hG1
    have hbit := bits_one (p.castle / 2) (by omega) (by omega)
    have hbitk : bits BinOp.and IntKind.i64 1 1 = 1 := by decide
    have hcv2 : castleToI p 1 = if p.castle / 2 % 2 = 0 then -1 else if (betweenN 1).any (fun k => p.L k != 0) = true then -1 else if (safeN p 1 0 && safeN p 1 1 && safeN p 1 2) = false then -1 else 2 := hcv
    rw [← hbit] at hcv2
    have Hcv := Lib.hid hcv2
    clear hcv hcv2 hbit
    cases qb : (bits BinOp.and IntKind.i64 (p.castle / 2) 1 == 0)
    case true =>
      have hcm : castleToI p 1 = -1 := by rw [Hcv.out, if_pos (by simpa using qb)]
      have hca : castAt p 1 = [] := by unfold castAt; rw [hcm, if_pos (by decide)]
      clear hcm
      have Hca := Lib.hid hca
      clear hca
      go_wp2_with (go_at_call 62; refine (rightP_1 _).mono ?_; rintro e w' ⟨rfl, rfl⟩)
      go_roundg (0)
      case measure => have := Hg.out; omega
      case rel => exact ⟨2, v', by omega, rfl, by go_num, by rw [HG1.out, Hca.out, List.append_nil]; exact hS⟩
    case false =>
    have hq : ¬ bits BinOp.and IntKind.i64 (p.castle / 2) 1 = 0 := by simpa using qb
    have hcv3 := Hcv.out
    rw [if_neg hq] at hcv3
    clear Hcv hq
    have Hcv := Lib.hid hcv3
    clear hcv3
    go_upto_block 2 with (go_at_call 62; refine (rightP_1 _).mono ?_; rintro e w' ⟨rfl, rfl⟩)
    go_cut [8, 9] from 40 to 54 (fun s8 s9 wx => wx = wr ∧ s8 = .bool (!(betweenN 1).any fun k => p.L k != 0))
    case first =>
      have hBr := Hbr.out.below hS.gs.below hbn
      have z3 := hBr.cell 3 (by omega)
      have z2 := hBr.cell 2 (by omega)
      have z1 := hBr.cell 1 (by omega)
      clear hBr
      cases e3 : (p.L 3 == 0)
      case false =>
        go_wp2_with fail
        refine wp_loop_rounds 4 ?_
        rw [rounds_succ]
        go_wp2
        rw [rounds_succ]
        go_wp2
        rw [rounds_succ]
        go_wp2
        rw [rounds_succ]
        go_wp2
        go_meet
        exact ⟨rfl, by simp [betweenN, bne, e3]⟩
      case true =>
      cases e2 : (p.L 2 == 0)
      case false =>
        go_wp2_with fail
        refine wp_loop_rounds 4 ?_
        rw [rounds_succ]
        go_wp2
        rw [rounds_succ]
        go_wp2
        rw [rounds_succ]
        go_wp2
        rw [rounds_succ]
        go_wp2
        go_meet
        exact ⟨rfl, by simp [betweenN, bne, e3, e2]⟩
      case true =>
      cases e1 : (p.L 1 == 0)
      case false =>
        go_wp2_with fail
        refine wp_loop_rounds 4 ?_
        rw [rounds_succ]
        go_wp2
        rw [rounds_succ]
        go_wp2
        rw [rounds_succ]
        go_wp2
        rw [rounds_succ]
        go_wp2
        go_meet
        exact ⟨rfl, by simp [betweenN, bne, e3, e2, e1]⟩
      case true =>
        go_wp2_with fail
        refine wp_loop_rounds 4 ?_
        rw [rounds_succ]
        go_wp2
        rw [rounds_succ]
        go_wp2
        rw [rounds_succ]
        go_wp2
        rw [rounds_succ]
        go_wp2
        go_meet
        exact ⟨rfl, by simp [betweenN, bne, e3, e2, e1]⟩
    case rest =>
    obtain ⟨rfl, rfl⟩ := hcut
    generalize hbt : (betweenN 1).any (fun k => p.L k != 0) = bt at *
    have Hbt := Lib.hid hbt
    clear hbt
    go_upto_block 4 with fail
    go_cut [8, 10] from 55 to 74 (fun s8 s10 wx => s8 = .bool (!bt && (safeN p 1 0 && safeN p 1 1 && safeN p 1 2)) ∧ CSS n₀ w W wx b off cap p v' (l ++ (castG p 1).filter fun m => safeGo p m.fr m.tg))
    case first =>
      cases bt
      case true =>
        go_wp2_with fail
        refine wp_loop_rounds 4 ?_
        rw [rounds_succ]
        go_wp2
        rw [rounds_succ]
        go_wp2
        rw [rounds_succ]
        go_wp2
        rw [rounds_succ]
        go_wp2
        go_meet
        exact ⟨rfl, hS⟩
      case false =>
        have hs0 : safeN p 1 0 = !decide (0 < (attackersL p.L 4 1 64).length) := by unfold safeN; rw [Ht.out]; rfl
        have Hs0 := Lib.hid hs0
        clear hs0
        have hs1 : safeN p 1 1 = !decide (0 < (attackersL p.L 3 1 64).length) := by unfold safeN; rw [Ht.out]; rfl
        have Hs1 := Lib.hid hs1
        clear hs1
        have hs2 : safeN p 1 2 = !decide (0 < (attackersL p.L 2 1 64).length) := by unfold safeN; rw [Ht.out]; rfl
        have Hs2 := Lib.hid hs2
        clear hs2
        generalize ha0 : (attackersL p.L 4 1 64).length = n0 at *
        have Ha0 := Lib.hid ha0
        clear ha0
        generalize ha1 : (attackersL p.L 3 1 64).length = n1 at *
        have Ha1 := Lib.hid ha1
        clear ha1
        generalize ha2 : (attackersL p.L 2 1 64).length = n2 at *
        have Ha2 := Lib.hid ha2
        clear ha2
        have HA0 : ∀ (w0 : World), Brd w0 b off p.L → Calls Tryz.prog 93 #[.slice (some ⟨b, off, none⟩) 64 cap, .int .i64 4, .int .i64 1] w0 (RetLen n0 w0) := fun w0 h2 => by rw [← Ha0.out]; exact attackersP_any b off cap p.L 4 1 w0 (by omega) h2
        have HA0 := Lib.hid HA0
        have HA1 : ∀ (w0 : World), Brd w0 b off p.L → Calls Tryz.prog 93 #[.slice (some ⟨b, off, none⟩) 64 cap, .int .i64 3, .int .i64 1] w0 (RetLen n1 w0) := fun w0 h2 => by rw [← Ha1.out]; exact attackersP_any b off cap p.L 3 1 w0 (by omega) h2
        have HA1 := Lib.hid HA1
        have HA2 : ∀ (w0 : World), Brd w0 b off p.L → Calls Tryz.prog 93 #[.slice (some ⟨b, off, none⟩) 64 cap, .int .i64 2, .int .i64 1] w0 (RetLen n2 w0) := fun w0 h2 => by rw [← Ha2.out]; exact attackersP_any b off cap p.L 2 1 w0 (by omega) h2
        have HA2 := Lib.hid HA2
        have hB0 := Hbr.out.below hS.gs.below hbn
        have HB0 := Lib.hid hB0
        clear hB0
        cases e0 : ((n0 : Int) == 0)
        case false =>
          go_wp2_with fail
          refine wp_loop_rounds 4 ?_
          rw [rounds_succ]
          go_wp2_with (go_at_call 93; refine (HA0.out _ HB0.out).mono ?_; rintro e w1 ⟨a0, cp0, rfl, hb0⟩)
          rw [rounds_succ]
          go_wp2
          rw [rounds_succ]
          go_wp2
          rw [rounds_succ]
          go_wp2
          go_meet
          have hnz : 0 < n0 := by simp at e0; omega
          exact ⟨by rw [Hs0.out, Hs1.out, Hs2.out]; simp [hnz], (hS.later hb0)⟩
        case true =>
        cases e1 : ((n1 : Int) == 0)
        case false =>
          go_wp2_with fail
          refine wp_loop_rounds 4 ?_
          rw [rounds_succ]
          go_wp2_with (go_at_call 93; refine (HA0.out _ HB0.out).mono ?_; rintro e w1 ⟨a0, cp0, rfl, hb0⟩)
          have hB1 := HB0.out.below hb0 (HB0.out).lt
          have p0_0 := (hS.later hb0).kP.cell (o := 0) rfl
          have p1_0 : w1.cell? ⟨W.heap.size, 1, none⟩ = some (.int .i64 0) := by rw [← Ht.out]; exact (hS.later hb0).kP.cell rfl
          rw [rounds_succ]
          go_wp2_with (go_at_call 93; refine (HA1.out _ hB1).mono ?_; rintro e w2 ⟨a1, cp1, rfl, hb1⟩)
          rw [rounds_succ]
          go_wp2
          rw [rounds_succ]
          go_wp2
          go_meet
          have hnz : 0 < n1 := by simp at e1; omega
          exact ⟨by rw [Hs0.out, Hs1.out, Hs2.out]; simp [hnz], ((hS.later hb0).later hb1)⟩
        case true =>
        cases e2 : ((n2 : Int) == 0)
        case false =>
          go_wp2_with fail
          refine wp_loop_rounds 4 ?_
          rw [rounds_succ]
          go_wp2_with (go_at_call 93; refine (HA0.out _ HB0.out).mono ?_; rintro e w1 ⟨a0, cp0, rfl, hb0⟩)
          have hB1 := HB0.out.below hb0 (HB0.out).lt
          have p0_0 := (hS.later hb0).kP.cell (o := 0) rfl
          have p1_0 : w1.cell? ⟨W.heap.size, 1, none⟩ = some (.int .i64 0) := by rw [← Ht.out]; exact (hS.later hb0).kP.cell rfl
          rw [rounds_succ]
          go_wp2_with (go_at_call 93; refine (HA1.out _ hB1).mono ?_; rintro e w2 ⟨a1, cp1, rfl, hb1⟩)
          have hB2 := hB1.below hb1 (hB1).lt
          have p0_1 := ((hS.later hb0).later hb1).kP.cell (o := 0) rfl
          have p1_1 : w2.cell? ⟨W.heap.size, 1, none⟩ = some (.int .i64 0) := by rw [← Ht.out]; exact ((hS.later hb0).later hb1).kP.cell rfl
          rw [rounds_succ]
          go_wp2_with (go_at_call 93; refine (HA2.out _ hB2).mono ?_; rintro e w3 ⟨a2, cp2, rfl, hb2⟩)
          rw [rounds_succ]
          go_wp2
          go_meet
          have hnz : 0 < n2 := by simp at e2; omega
          exact ⟨by rw [Hs0.out, Hs1.out, Hs2.out]; simp [hnz], (((hS.later hb0).later hb1).later hb2)⟩
        case true =>
          go_wp2_with fail
          refine wp_loop_rounds 4 ?_
          rw [rounds_succ]
          go_wp2_with (go_at_call 93; refine (HA0.out _ HB0.out).mono ?_; rintro e w1 ⟨a0, cp0, rfl, hb0⟩)
          have hB1 := HB0.out.below hb0 (HB0.out).lt
          have p0_0 := (hS.later hb0).kP.cell (o := 0) rfl
          have p1_0 : w1.cell? ⟨W.heap.size, 1, none⟩ = some (.int .i64 0) := by rw [← Ht.out]; exact (hS.later hb0).kP.cell rfl
          rw [rounds_succ]
          go_wp2_with (go_at_call 93; refine (HA1.out _ hB1).mono ?_; rintro e w2 ⟨a1, cp1, rfl, hb1⟩)
          have hB2 := hB1.below hb1 (hB1).lt
          have p0_1 := ((hS.later hb0).later hb1).kP.cell (o := 0) rfl
          have p1_1 : w2.cell? ⟨W.heap.size, 1, none⟩ = some (.int .i64 0) := by rw [← Ht.out]; exact ((hS.later hb0).later hb1).kP.cell rfl
          rw [rounds_succ]
          go_wp2_with (go_at_call 93; refine (HA2.out _ hB2).mono ?_; rintro e w3 ⟨a2, cp2, rfl, hb2⟩)
          rw [rounds_succ]
          go_wp2
          go_meet
          exact ⟨by rw [Hs0.out, Hs1.out, Hs2.out, show n0 = 0 by simpa using e0, show n1 = 0 by simpa using e1, show n2 = 0 by simpa using e2]; rfl, (((hS.later hb0).later hb1).later hb2)⟩
    case rest =>
    clear hS
    obtain ⟨rfl, hS⟩ := hcut
    generalize hsf : (safeN p 1 0 && safeN p 1 1 && safeN p 1 2) = sf at *
    have Hsf := Lib.hid hsf
    clear hsf
    cases hfree : (!bt && sf)
    case false =>
      have hcm : castleToI p 1 = -1 := by
        have h1 := Hcv.out
        cases bt <;> cases sf <;> first | (exact absurd hfree (by decide)) | (rw [h1]; rfl)
      have hca : castAt p 1 = [] := by unfold castAt; rw [hcm, if_pos (by decide)]
      clear hcm
      have Hca := Lib.hid hca
      clear hca
      go_wp2
      go_roundg (0)
      case measure => have := Hg.out; omega
      case rel => exact ⟨2, v', by omega, rfl, by go_num, by rw [HG1.out, Hca.out, List.append_nil]; exact hS⟩
    case true =>
      have hbf : bt = false ∧ sf = true := by cases bt <;> cases sf <;> simp at hfree ⊢
      have hto : castleToI p 1 = 2 := by
        have h1 := Hcv.out
        rw [hbf.1, hbf.2, if_neg (by decide), if_neg (by decide)] at h1
        exact h1
      have hP := castG_mem Hm.out (n := 1) (by rw [Ht.out]; decide) (by rw [hto]; decide)
      have hca : castAt p 1 = [⟨4, 2, 0⟩] := by unfold castAt; rw [hto, if_neg (by decide)]; rfl
      rw [hto] at hP
      have HC := Lib.hid (tellC_any Hm.out Hbr.out hbn hS.gs HLe.out hP)
      have Hca := Lib.hid hca
      clear hca hP hto hbf
      go_wp2_with (go_at_call 78; refine HC.out.mono ?_; rintro e w1 ⟨rfl, v1, hG1, hF1⟩)
      go_roundg (0)
      case measure => have := Hg.out; omega
      case rel => exact ⟨2, v1, by omega, rfl, by go_num, by rw [HG1.out, List.filter_append, ← List.append_assoc, Hca.out]; exact hS.told hG1 hF1⟩
  · go_wp2
    go_end0
    exact ⟨rfl, v', hS.gs, hS.fr⟩

end Go.Proofs.YthffhhbbhjcdeaaGreatDoor
namespace Go.Proofs.YthffhhbbhjcdeaaGreatDoor
open Go.RowKit
set_option maxRecDepth 100000

set_option maxHeartbeats 8000000 in
theorem castles_1 {n₀ b off cap : Nat} {w W : World} {p : Pos} {v : Value} {l : List Mv} (hm : MayP p) (hbr : Brd w b off p.L) (hbn : b < n₀) (hS : GS n₀ w W b off cap p v l) (hl : l.length ≤ 18900) (ht : p.turn = 1) :
    Calls Tryz.prog 77 #[chessV b off cap p, .func (.func 78) #[] #[.pointer (some ⟨n₀ + 2, 0, none⟩)]] W fun e w' => e = .returned (.tuple #[]) ∧ ∃ v', GS n₀ w w' b off cap p v' (l ++ (castG p 2).filter fun m => safeGo p m.fr m.tg) ∧ FrK (n₀ + 1) W w' := by
  have Ht := Lib.hid ht
  have hlt := hS.lt
  have Hm := Lib.hid hm
  have Hbr := Lib.hid hbr
  have c0 := hm.ok.c0
  have c1 := hm.ok.c1
  have hb0 : ∀ o, Below W.heap.size W (W.alloc o) := fun o => (Below.refl _ _).alloc (Nat.le_refl _) o
  have hol := hS.ol
  have hl2 : ∀ k, ((castG p k).filter fun m => safeGo p m.fr m.tg).length ≤ 2 := fun k => by
    refine Nat.le_trans (List.length_filter_le _ _) ?_
    have h1 : ∀ n, (castAt p n).length ≤ 1 := fun n => by unfold castAt; split <;> simp
    match k with
    | 0 => simp [castG]
    | 1 => exact Nat.le_trans (h1 _) (by omega)
    | k + 2 =>
      show (castAt p (2 * p.turn.toNat) ++ castAt p (2 * p.turn.toNat + 1)).length ≤ 2
      rw [List.length_append]
      have := h1 (2 * p.turn.toNat)
      have := h1 (2 * p.turn.toNat + 1)
      omega
  have HL := Lib.hid hl2
  clear hl2
  unfold chessV
  have hS0 : ∀ e, CSS n₀ w W (W.alloc (.cells #[.slice (some ⟨b, off, none⟩) 64 cap, .int .i64 p.turn, .int .i64 p.castle, .int .i64 p.ep, .int .i64 p.half, .int .i64 p.full] e)) b off cap p v (l ++ (castG p 0).filter fun m => safeGo p m.fr m.tg) := fun e =>
    ⟨by simpa [castG] using hS.later (hb0 _), FrK.of_below (hb0 _) (by omega), Blk.new _ _ _, Sf.new rfl (by omega) hol _ _⟩
  have HS0 := Lib.hid (hS0 24)
  clear hS0 hS hm hbr ht hol
  go_enter Tryz.func77, Tryz.ntmps77
  go_upto_region 1 with fail
  generalize hW0 : World.alloc _ _ = W0 at *
  replace HS0 := HS0.out
  clear hW0 hb0
  have p1 : W0.cell? ⟨W.heap.size, 1, none⟩ = some (.int .i64 1) := by rw [← Ht.out]; exact HS0.kP.cell rfl
  have HS0 := Lib.hid HS0
  go_wp2_with fail
  go_loopg [4, 5, 6, 7, 8, 9, 10] 2 (fun g s4 s5 s6 s7 s8 s9 s10 wr => ∃ (k : Nat) (v' : Value), k ≤ 2 ∧ g = 2 - k ∧ s4 = .int .i64 ((2 : Nat) + (k : Int)) ∧ CSS n₀ w W wr b off cap p v' (l ++ (castG p k).filter fun m => safeGo p m.fr m.tg))
  case atStart => exact ⟨0, v, by omega, rfl, rfl, HS0.out⟩
  case round =>
  clear p1 HS0
  obtain ⟨k, v', hk, hg, rfl, hS⟩ := hrel
  have Hg := Lib.hid hg
  clear hg
  have hle : (l ++ (castG p k).filter fun m => safeGo p m.fr m.tg).length ≤ 19000 := by
    rw [List.length_append]; have := HL.out k; omega
  have HLe := Lib.hid hle
  clear hle
  have p1 : wr.cell? ⟨W.heap.size, 1, none⟩ = some (.int .i64 1) := by rw [← Ht.out]; exact hS.kP.cell rfl
  have p0 := hS.kP.cell (o := 0) rfl
  have p2 := hS.kP.cell (o := 2) rfl
  have hks : k = 0 ∨ k = 1 ∨ k = 2 := by omega
  rcases hks with rfl | rfl | rfl
  · have hcv := cast_val (p := p) (n := 2) (by rw [Ht.out]; rfl)
    have hG1 : castG p 1 = castG p 0 ++ castAt p 2 := by
      have e : (2 * p.turn.toNat : Nat) = 2 := by rw [Ht.out]; rfl
      show castAt p (2 * p.turn.toNat) = _; rw [e]; rfl
    have HG1 := Lib.hid hG1
    clear hG1
    have hbit := bits_one (p.castle / 4) (by omega) (by omega)
    have hbitk : bits BinOp.and IntKind.i64 2 1 = 0 := by decide
    have hcv2 : castleToI p 2 = if p.castle / 4 % 2 = 0 then -1 else if (betweenN 2).any (fun k => p.L k != 0) = true then -1 else if (safeN p 2 0 && safeN p 2 1 && safeN p 2 2) = false then -1 else 62 := hcv
    rw [← hbit] at hcv2
    have Hcv := Lib.hid hcv2
    clear hcv hcv2 hbit
    cases qb : (bits BinOp.and IntKind.i64 (p.castle / 4) 1 == 0)
    case true =>
      have hcm : castleToI p 2 = -1 := by rw [Hcv.out, if_pos (by simpa using qb)]
      have hca : castAt p 2 = [] := by unfold castAt; rw [hcm, if_pos (by decide)]
      clear hcm
      have Hca := Lib.hid hca
      clear hca
      go_wp2_with (go_at_call 62; refine (rightP_2 _).mono ?_; rintro e w' ⟨rfl, rfl⟩)
      go_roundg (1)
      case measure => have := Hg.out; omega
      case rel => exact ⟨1, v', by omega, rfl, by go_num, by rw [HG1.out, Hca.out, List.append_nil]; exact hS⟩
    case false =>
    have hq : ¬ bits BinOp.and IntKind.i64 (p.castle / 4) 1 = 0 := by simpa using qb
    have hcv3 := Hcv.out
    rw [if_neg hq] at hcv3
    clear Hcv hq
    have Hcv := Lib.hid hcv3
    clear hcv3
    go_upto_block 2 with (go_at_call 62; refine (rightP_2 _).mono ?_; rintro e w' ⟨rfl, rfl⟩)
    go_cut [8, 9] from 40 to 54 (fun s8 s9 wx => wx = wr ∧ s8 = .bool (!(betweenN 2).any fun k => p.L k != 0))
    case first =>
      have hBr := Hbr.out.below hS.gs.below hbn
      have z61 := hBr.cell 61 (by omega)
      have z62 := hBr.cell 62 (by omega)
      clear hBr
      cases e61 : (p.L 61 == 0)
      case false =>
        go_wp2_with fail
        refine wp_loop_rounds 3 ?_
        rw [rounds_succ]
        go_wp2
        rw [rounds_succ]
        go_wp2
        rw [rounds_succ]
        go_wp2
        go_meet
        exact ⟨rfl, by simp [betweenN, bne, e61]⟩
      case true =>
      cases e62 : (p.L 62 == 0)
      case false =>
        go_wp2_with fail
        refine wp_loop_rounds 3 ?_
        rw [rounds_succ]
        go_wp2
        rw [rounds_succ]
        go_wp2
        rw [rounds_succ]
        go_wp2
        go_meet
        exact ⟨rfl, by simp [betweenN, bne, e61, e62]⟩
      case true =>
        go_wp2_with fail
        refine wp_loop_rounds 3 ?_
        rw [rounds_succ]
        go_wp2
        rw [rounds_succ]
        go_wp2
        rw [rounds_succ]
        go_wp2
        go_meet
        exact ⟨rfl, by simp [betweenN, bne, e61, e62]⟩
    case rest =>
    obtain ⟨rfl, rfl⟩ := hcut
    generalize hbt : (betweenN 2).any (fun k => p.L k != 0) = bt at *
    have Hbt := Lib.hid hbt
    clear hbt
    go_upto_block 4 with fail
    go_cut [8, 10] from 55 to 74 (fun s8 s10 wx => s8 = .bool (!bt && (safeN p 2 0 && safeN p 2 1 && safeN p 2 2)) ∧ CSS n₀ w W wx b off cap p v' (l ++ (castG p 0).filter fun m => safeGo p m.fr m.tg))
    case first =>
      cases bt
      case true =>
        go_wp2_with fail
        refine wp_loop_rounds 4 ?_
        rw [rounds_succ]
        go_wp2
        rw [rounds_succ]
        go_wp2
        rw [rounds_succ]
        go_wp2
        rw [rounds_succ]
        go_wp2
        go_meet
        exact ⟨rfl, hS⟩
      case false =>
        have hs0 : safeN p 2 0 = !decide (0 < (attackersL p.L 60 0 64).length) := by unfold safeN; rw [Ht.out]; rfl
        have Hs0 := Lib.hid hs0
        clear hs0
        have hs1 : safeN p 2 1 = !decide (0 < (attackersL p.L 61 0 64).length) := by unfold safeN; rw [Ht.out]; rfl
        have Hs1 := Lib.hid hs1
        clear hs1
        have hs2 : safeN p 2 2 = !decide (0 < (attackersL p.L 62 0 64).length) := by unfold safeN; rw [Ht.out]; rfl
        have Hs2 := Lib.hid hs2
        clear hs2
        generalize ha0 : (attackersL p.L 60 0 64).length = n0 at *
        have Ha0 := Lib.hid ha0
        clear ha0
        generalize ha1 : (attackersL p.L 61 0 64).length = n1 at *
        have Ha1 := Lib.hid ha1
        clear ha1
        generalize ha2 : (attackersL p.L 62 0 64).length = n2 at *
        have Ha2 := Lib.hid ha2
        clear ha2
        have HA0 : ∀ (w0 : World), Brd w0 b off p.L → Calls Tryz.prog 93 #[.slice (some ⟨b, off, none⟩) 64 cap, .int .i64 60, .int .i64 0] w0 (RetLen n0 w0) := fun w0 h2 => by rw [← Ha0.out]; exact attackersP_any b off cap p.L 60 0 w0 (by omega) h2
        have HA0 := Lib.hid HA0
        have HA1 : ∀ (w0 : World), Brd w0 b off p.L → Calls Tryz.prog 93 #[.slice (some ⟨b, off, none⟩) 64 cap, .int .i64 61, .int .i64 0] w0 (RetLen n1 w0) := fun w0 h2 => by rw [← Ha1.out]; exact attackersP_any b off cap p.L 61 0 w0 (by omega) h2
        have HA1 := Lib.hid HA1
        have HA2 : ∀ (w0 : World), Brd w0 b off p.L → Calls Tryz.prog 93 #[.slice (some ⟨b, off, none⟩) 64 cap, .int .i64 62, .int .i64 0] w0 (RetLen n2 w0) := fun w0 h2 => by rw [← Ha2.out]; exact attackersP_any b off cap p.L 62 0 w0 (by omega) h2
        have HA2 := Lib.hid HA2
        have hB0 := Hbr.out.below hS.gs.below hbn
        have HB0 := Lib.hid hB0
        clear hB0
        cases e0 : ((n0 : Int) == 0)
        case false =>
          go_wp2_with fail
          refine wp_loop_rounds 4 ?_
          rw [rounds_succ]
          go_wp2_with (go_at_call 93; refine (HA0.out _ HB0.out).mono ?_; rintro e w1 ⟨a0, cp0, rfl, hb0⟩)
          rw [rounds_succ]
          go_wp2
          rw [rounds_succ]
          go_wp2
          rw [rounds_succ]
          go_wp2
          go_meet
          have hnz : 0 < n0 := by simp at e0; omega
          exact ⟨by rw [Hs0.out, Hs1.out, Hs2.out]; simp [hnz], (hS.later hb0)⟩
        case true =>
        cases e1 : ((n1 : Int) == 0)
        case false =>
          go_wp2_with fail
          refine wp_loop_rounds 4 ?_
          rw [rounds_succ]
          go_wp2_with (go_at_call 93; refine (HA0.out _ HB0.out).mono ?_; rintro e w1 ⟨a0, cp0, rfl, hb0⟩)
          have hB1 := HB0.out.below hb0 (HB0.out).lt
          have p0_0 := (hS.later hb0).kP.cell (o := 0) rfl
          have p1_0 : w1.cell? ⟨W.heap.size, 1, none⟩ = some (.int .i64 1) := by rw [← Ht.out]; exact (hS.later hb0).kP.cell rfl
          rw [rounds_succ]
          go_wp2_with (go_at_call 93; refine (HA1.out _ hB1).mono ?_; rintro e w2 ⟨a1, cp1, rfl, hb1⟩)
          rw [rounds_succ]
          go_wp2
          rw [rounds_succ]
          go_wp2
          go_meet
          have hnz : 0 < n1 := by simp at e1; omega
          exact ⟨by rw [Hs0.out, Hs1.out, Hs2.out]; simp [hnz], ((hS.later hb0).later hb1)⟩
        case true =>
        cases e2 : ((n2 : Int) == 0)
        case false =>
          go_wp2_with fail
          refine wp_loop_rounds 4 ?_
          rw [rounds_succ]
          go_wp2_with (go_at_call 93; refine (HA0.out _ HB0.out).mono ?_; rintro e w1 ⟨a0, cp0, rfl, hb0⟩)
          have hB1 := HB0.out.below hb0 (HB0.out).lt
          have p0_0 := (hS.later hb0).kP.cell (o := 0) rfl
          have p1_0 : w1.cell? ⟨W.heap.size, 1, none⟩ = some (.int .i64 1) := by rw [← Ht.out]; exact (hS.later hb0).kP.cell rfl
          rw [rounds_succ]
          go_wp2_with (go_at_call 93; refine (HA1.out _ hB1).mono ?_; rintro e w2 ⟨a1, cp1, rfl, hb1⟩)
          have hB2 := hB1.below hb1 (hB1).lt
          have p0_1 := ((hS.later hb0).later hb1).kP.cell (o := 0) rfl
          have p1_1 : w2.cell? ⟨W.heap.size, 1, none⟩ = some (.int .i64 1) := by rw [← Ht.out]; exact ((hS.later hb0).later hb1).kP.cell rfl
          rw [rounds_succ]
          go_wp2_with (go_at_call 93; refine (HA2.out _ hB2).mono ?_; rintro e w3 ⟨a2, cp2, rfl, hb2⟩)
          rw [rounds_succ]
          go_wp2
          go_meet
          have hnz : 0 < n2 := by simp at e2; omega
          exact ⟨by rw [Hs0.out, Hs1.out, Hs2.out]; simp [hnz], (((hS.later hb0).later hb1).later hb2)⟩
        case true =>
          go_wp2_with fail
          refine wp_loop_rounds 4 ?_
          rw [rounds_succ]
          go_wp2_with (go_at_call 93; refine (HA0.out _ HB0.out).mono ?_; rintro e w1 ⟨a0, cp0, rfl, hb0⟩)
          have hB1 := HB0.out.below hb0 (HB0.out).lt
          have p0_0 := (hS.later hb0).kP.cell (o := 0) rfl
          have p1_0 : w1.cell? ⟨W.heap.size, 1, none⟩ = some (.int .i64 1) := by rw [← Ht.out]; exact (hS.later hb0).kP.cell rfl
          rw [rounds_succ]
          go_wp2_with (go_at_call 93; refine (HA1.out _ hB1).mono ?_; rintro e w2 ⟨a1, cp1, rfl, hb1⟩)
          have hB2 := hB1.below hb1 (hB1).lt
          have p0_1 := ((hS.later hb0).later hb1).kP.cell (o := 0) rfl
          have p1_1 : w2.cell? ⟨W.heap.size, 1, none⟩ = some (.int .i64 1) := by rw [← Ht.out]; exact ((hS.later hb0).later hb1).kP.cell rfl
          rw [rounds_succ]
          go_wp2_with (go_at_call 93; refine (HA2.out _ hB2).mono ?_; rintro e w3 ⟨a2, cp2, rfl, hb2⟩)
          rw [rounds_succ]
          go_wp2
          go_meet
          exact ⟨by rw [Hs0.out, Hs1.out, Hs2.out, show n0 = 0 by simpa using e0, show n1 = 0 by simpa using e1, show n2 = 0 by simpa using e2]; rfl, (((hS.later hb0).later hb1).later hb2)⟩
    case rest =>
    clear hS
    obtain ⟨rfl, hS⟩ := hcut
    generalize hsf : (safeN p 2 0 && safeN p 2 1 && safeN p 2 2) = sf at *
    have Hsf := Lib.hid hsf
    clear hsf
    cases hfree : (!bt && sf)
    case false =>
      have hcm : castleToI p 2 = -1 := by
        have h1 := Hcv.out
        cases bt <;> cases sf <;> first | (exact absurd hfree (by decide)) | (rw [h1]; rfl)
      have hca : castAt p 2 = [] := by unfold castAt; rw [hcm, if_pos (by decide)]
      clear hcm
      have Hca := Lib.hid hca
      clear hca
      go_wp2
      go_roundg (1)
      case measure => have := Hg.out; omega
      case rel => exact ⟨1, v', by omega, rfl, by go_num, by rw [HG1.out, Hca.out, List.append_nil]; exact hS⟩
    case true =>
      have hbf : bt = false ∧ sf = true := by cases bt <;> cases sf <;> simp at hfree ⊢
      have hto : castleToI p 2 = 62 := by
        have h1 := Hcv.out
        rw [hbf.1, hbf.2, if_neg (by decide), if_neg (by decide)] at h1
        exact h1
      have hP := castG_mem Hm.out (n := 2) (by rw [Ht.out]; decide) (by rw [hto]; decide)
      have hca : castAt p 2 = [⟨60, 62, 0⟩] := by unfold castAt; rw [hto, if_neg (by decide)]; rfl
      rw [hto] at hP
      have HC := Lib.hid (tellC_any Hm.out Hbr.out hbn hS.gs HLe.out hP)
      have Hca := Lib.hid hca
      clear hca hP hto hbf
      go_wp2_with (go_at_call 78; refine HC.out.mono ?_; rintro e w1 ⟨rfl, v1, hG1, hF1⟩)
      go_roundg (1)
      case measure => have := Hg.out; omega
      case rel => exact ⟨1, v1, by omega, rfl, by go_num, by rw [HG1.out, List.filter_append, ← List.append_assoc, Hca.out]; exact hS.told hG1 hF1⟩
  · have hcv := cast_val (p := p) (n := 3) (by rw [Ht.out]; rfl)
    have hG1 : castG p 2 = castG p 1 ++ castAt p 3 := by
      have e : (2 * p.turn.toNat : Nat) = 2 := by rw [Ht.out]; rfl
      show castAt p (2 * p.turn.toNat) ++ castAt p (2 * p.turn.toNat + 1) = castAt p (2 * p.turn.toNat) ++ _; rw [e]
    have HG1 := Lib.hid hG1
    clear hG1
    have hbit := bits_one (p.castle / 8) (by omega) (by omega)
    have hbitk : bits BinOp.and IntKind.i64 3 1 = 1 := by decide
    have hcv2 : castleToI p 3 = if p.castle / 8 % 2 = 0 then -1 else if (betweenN 3).any (fun k => p.L k != 0) = true then -1 else if (safeN p 3 0 && safeN p 3 1 && safeN p 3 2) = false then -1 else 58 := hcv
    rw [← hbit] at hcv2
    have Hcv := Lib.hid hcv2
    clear hcv hcv2 hbit
    cases qb : (bits BinOp.and IntKind.i64 (p.castle / 8) 1 == 0)
    case true =>
      have hcm : castleToI p 3 = -1 := by rw [Hcv.out, if_pos (by simpa using qb)]
      have hca : castAt p 3 = [] := by unfold castAt; rw [hcm, if_pos (by decide)]
      clear hcm
      have Hca := Lib.hid hca
      clear hca
      go_wp2_with (go_at_call 62; refine (rightP_3 _).mono ?_; rintro e w' ⟨rfl, rfl⟩)
      go_roundg (0)
      case measure => have := Hg.out; omega
      case rel => exact ⟨2, v', by omega, rfl, by go_num, by rw [HG1.out, Hca.out, List.append_nil]; exact hS⟩
    case false =>
    have hq : ¬ bits BinOp.and IntKind.i64 (p.castle / 8) 1 = 0 := by simpa using qb
    have hcv3 := Hcv.out
    rw [if_neg hq] at hcv3
    clear Hcv hq
    have Hcv := Lib.hid hcv3
    clear hcv3
    go_upto_block 2 with (go_at_call 62; refine (rightP_3 _).mono ?_; rintro e w' ⟨rfl, rfl⟩)
    go_cut [8, 9] from 40 to 54 (fun s8 s9 wx => wx = wr ∧ s8 = .bool (!(betweenN 3).any fun k => p.L k != 0))
    case first =>
      have hBr := Hbr.out.below hS.gs.below hbn
      have z59 := hBr.cell 59 (by omega)
      have z58 := hBr.cell 58 (by omega)
      have z57 := hBr.cell 57 (by omega)
      clear hBr
      cases e59 : (p.L 59 == 0)
      case false =>
        go_wp2_with fail
        refine wp_loop_rounds 4 ?_
        rw [rounds_succ]
        go_wp2
        rw [rounds_succ]
        go_wp2
        rw [rounds_succ]
        go_wp2
        rw [rounds_succ]
        go_wp2
        go_meet
        exact ⟨rfl, by simp [betweenN, bne, e59]⟩
      case true =>
      cases e58 : (p.L 58 == 0)
      case false =>
        go_wp2_with fail
        refine wp_loop_rounds 4 ?_
        rw [rounds_succ]
        go_wp2
        rw [rounds_succ]
        go_wp2
        rw [rounds_succ]
        go_wp2
        rw [rounds_succ]
        go_wp2
        go_meet
        exact ⟨rfl, by simp [betweenN, bne, e59, e58]⟩
      case true =>
      cases e57 : (p.L 57 == 0)
      case false =>
        go_wp2_with fail
        refine wp_loop_rounds 4 ?_
        rw [rounds_succ]
        go_wp2
        rw [rounds_succ]
        go_wp2
        rw [rounds_succ]
        go_wp2
        rw [rounds_succ]
        go_wp2
        go_meet
        exact ⟨rfl, by simp [betweenN, bne, e59, e58, e57]⟩
      case true =>
        go_wp2_with fail
        refine wp_loop_rounds 4 ?_
        rw [rounds_succ]
        go_wp2
        rw [rounds_succ]
        go_wp2
        rw [rounds_succ]
        go_wp2
        rw [rounds_succ]
        go_wp2
        go_meet
        exact ⟨rfl, by simp [betweenN, bne, e59, e58, e57]⟩
    case rest =>
    obtain ⟨rfl, rfl⟩ := hcut
    generalize hbt : (betweenN 3).any (fun k => p.L k != 0) = bt at *
    have Hbt := Lib.hid hbt
    clear hbt
    go_upto_block 4 with fail
    go_cut [8, 10] from 55 to 74 (fun s8 s10 wx => s8 = .bool (!bt && (safeN p 3 0 && safeN p 3 1 && safeN p 3 2)) ∧ CSS n₀ w W wx b off cap p v' (l ++ (castG p 1).filter fun m => safeGo p m.fr m.tg))
    case first =>
      cases bt
      case true =>
        go_wp2_with fail
        refine wp_loop_rounds 4 ?_
        rw [rounds_succ]
        go_wp2
        rw [rounds_succ]
        go_wp2
        rw [rounds_succ]
        go_wp2
        rw [rounds_succ]
        go_wp2
        go_meet
        exact ⟨rfl, hS⟩
      case false =>
        have hs0 : safeN p 3 0 = !decide (0 < (attackersL p.L 60 0 64).length) := by unfold safeN; rw [Ht.out]; rfl
        have Hs0 := Lib.hid hs0
        clear hs0
        have hs1 : safeN p 3 1 = !decide (0 < (attackersL p.L 59 0 64).length) := by unfold safeN; rw [Ht.out]; rfl
        have Hs1 := Lib.hid hs1
        clear hs1
        have hs2 : safeN p 3 2 = !decide (0 < (attackersL p.L 58 0 64).length) := by unfold safeN; rw [Ht.out]; rfl
        have Hs2 := Lib.hid hs2
        clear hs2
        generalize ha0 : (attackersL p.L 60 0 64).length = n0 at *
        have Ha0 := Lib.hid ha0
        clear ha0
        generalize ha1 : (attackersL p.L 59 0 64).length = n1 at *
        have Ha1 := Lib.hid ha1
        clear ha1
        generalize ha2 : (attackersL p.L 58 0 64).length = n2 at *
        have Ha2 := Lib.hid ha2
        clear ha2
        have HA0 : ∀ (w0 : World), Brd w0 b off p.L → Calls Tryz.prog 93 #[.slice (some ⟨b, off, none⟩) 64 cap, .int .i64 60, .int .i64 0] w0 (RetLen n0 w0) := fun w0 h2 => by rw [← Ha0.out]; exact attackersP_any b off cap p.L 60 0 w0 (by omega) h2
        have HA0 := Lib.hid HA0
        have HA1 : ∀ (w0 : World), Brd w0 b off p.L → Calls Tryz.prog 93 #[.slice (some ⟨b, off, none⟩) 64 cap, .int .i64 59, .int .i64 0] w0 (RetLen n1 w0) := fun w0 h2 => by rw [← Ha1.out]; exact attackersP_any b off cap p.L 59 0 w0 (by omega) h2
        have HA1 := Lib.hid HA1
        have HA2 : ∀ (w0 : World), Brd w0 b off p.L → Calls Tryz.prog 93 #[.slice (some ⟨b, off, none⟩) 64 cap, .int .i64 58, .int .i64 0] w0 (RetLen n2 w0) := fun w0 h2 => by rw [← Ha2.out]; exact attackersP_any b off cap p.L 58 0 w0 (by omega) h2
        have HA2 := Lib.hid HA2
        have hB0 := Hbr.out.below hS.gs.below hbn
        have HB0 := Lib.hid hB0
        clear hB0
        cases e0 : ((n0 : Int) == 0)
        case false =>
          go_wp2_with fail
          refine wp_loop_rounds 4 ?_
          rw [rounds_succ]
          go_wp2_with (go_at_call 93; refine (HA0.out _ HB0.out).mono ?_; rintro e w1 ⟨a0, cp0, rfl, hb0⟩)
          rw [rounds_succ]
          go_wp2
          rw [rounds_succ]
          go_wp2
          rw [rounds_succ]
          go_wp2
          go_meet
          have hnz : 0 < n0 := by simp at e0; omega
          exact ⟨by rw [Hs0.out, Hs1.out, Hs2.out]; simp [hnz], (hS.later hb0)⟩
        case true =>
        cases e1 : ((n1 : Int) == 0)
        case false =>
          go_wp2_with fail
          refine wp_loop_rounds 4 ?_
          rw [rounds_succ]
          go_wp2_with (go_at_call 93; refine (HA0.out _ HB0.out).mono ?_; rintro e w1 ⟨a0, cp0, rfl, hb0⟩)
          have hB1 := HB0.out.below hb0 (HB0.out).lt
          have p0_0 := (hS.later hb0).kP.cell (o := 0) rfl
          have p1_0 : w1.cell? ⟨W.heap.size, 1, none⟩ = some (.int .i64 1) := by rw [← Ht.out]; exact (hS.later hb0).kP.cell rfl
          rw [rounds_succ]
          go_wp2_with (go_at_call 93; refine (HA1.out _ hB1).mono ?_; rintro e w2 ⟨a1, cp1, rfl, hb1⟩)
          rw [rounds_succ]
          go_wp2
          rw [rounds_succ]
          go_wp2
          go_meet
          have hnz : 0 < n1 := by simp at e1; omega
          exact ⟨by rw [Hs0.out, Hs1.out, Hs2.out]; simp [hnz], ((hS.later hb0).later hb1)⟩
        case true =>
        cases e2 : ((n2 : Int) == 0)
        case false =>
          go_wp2_with fail
          refine wp_loop_rounds 4 ?_
          rw [rounds_succ]
          go_wp2_with (go_at_call 93; refine (HA0.out _ HB0.out).mono ?_; rintro e w1 ⟨a0, cp0, rfl, hb0⟩)
          have hB1 := HB0.out.below hb0 (HB0.out).lt
          have p0_0 := (hS.later hb0).kP.cell (o := 0) rfl
          have p1_0 : w1.cell? ⟨W.heap.size, 1, none⟩ = some (.int .i64 1) := by rw [← Ht.out]; exact (hS.later hb0).kP.cell rfl
          rw [rounds_succ]
          go_wp2_with (go_at_call 93; refine (HA1.out _ hB1).mono ?_; rintro e w2 ⟨a1, cp1, rfl, hb1⟩)
          have hB2 := hB1.below hb1 (hB1).lt
          have p0_1 := ((hS.later hb0).later hb1).kP.cell (o := 0) rfl
          have p1_1 : w2.cell? ⟨W.heap.size, 1, none⟩ = some (.int .i64 1) := by rw [← Ht.out]; exact ((hS.later hb0).later hb1).kP.cell rfl
          rw [rounds_succ]
          go_wp2_with (go_at_call 93; refine (HA2.out _ hB2).mono ?_; rintro e w3 ⟨a2, cp2, rfl, hb2⟩)
          rw [rounds_succ]
          go_wp2
          go_meet
          have hnz : 0 < n2 := by simp at e2; omega
          exact ⟨by rw [Hs0.out, Hs1.out, Hs2.out]; simp [hnz], (((hS.later hb0).later hb1).later hb2)⟩
        case true =>
          go_wp2_with fail
          refine wp_loop_rounds 4 ?_
          rw [rounds_succ]
          go_wp2_with (go_at_call 93; refine (HA0.out _ HB0.out).mono ?_; rintro e w1 ⟨a0, cp0, rfl, hb0⟩)
          have hB1 := HB0.out.below hb0 (HB0.out).lt
          have p0_0 := (hS.later hb0).kP.cell (o := 0) rfl
          have p1_0 : w1.cell? ⟨W.heap.size, 1, none⟩ = some (.int .i64 1) := by rw [← Ht.out]; exact (hS.later hb0).kP.cell rfl
          rw [rounds_succ]
          go_wp2_with (go_at_call 93; refine (HA1.out _ hB1).mono ?_; rintro e w2 ⟨a1, cp1, rfl, hb1⟩)
          have hB2 := hB1.below hb1 (hB1).lt
          have p0_1 := ((hS.later hb0).later hb1).kP.cell (o := 0) rfl
          have p1_1 : w2.cell? ⟨W.heap.size, 1, none⟩ = some (.int .i64 1) := by rw [← Ht.out]; exact ((hS.later hb0).later hb1).kP.cell rfl
          rw [rounds_succ]
          go_wp2_with (go_at_call 93; refine (HA2.out _ hB2).mono ?_; rintro e w3 ⟨a2, cp2, rfl, hb2⟩)
          rw [rounds_succ]
          go_wp2
          go_meet
          exact ⟨by rw [Hs0.out, Hs1.out, Hs2.out, show n0 = 0 by simpa using e0, show n1 = 0 by simpa using e1, show n2 = 0 by simpa using e2]; rfl, (((hS.later hb0).later hb1).later hb2)⟩
    case rest =>
    clear hS
    obtain ⟨rfl, hS⟩ := hcut
    generalize hsf : (safeN p 3 0 && safeN p 3 1 && safeN p 3 2) = sf at *
    have Hsf := Lib.hid hsf
    clear hsf
    cases hfree : (!bt && sf)
    case false =>
      have hcm : castleToI p 3 = -1 := by
        have h1 := Hcv.out
        cases bt <;> cases sf <;> first | (exact absurd hfree (by decide)) | (rw [h1]; rfl)
      have hca : castAt p 3 = [] := by unfold castAt; rw [hcm, if_pos (by decide)]
      clear hcm
      have Hca := Lib.hid hca
      clear hca
      go_wp2
      go_roundg (0)
      case measure => have := Hg.out; omega
      case rel => exact ⟨2, v', by omega, rfl, by go_num, by rw [HG1.out, Hca.out, List.append_nil]; exact hS⟩
    case true =>
      have hbf : bt = false ∧ sf = true := by cases bt <;> cases sf <;> simp at hfree ⊢
      have hto : castleToI p 3 = 58 := by
        have h1 := Hcv.out
        rw [hbf.1, hbf.2, if_neg (by decide), if_neg (by decide)] at h1
        exact h1
      have hP := castG_mem Hm.out (n := 3) (by rw [Ht.out]; decide) (by rw [hto]; decide)
      have hca : castAt p 3 = [⟨60, 58, 0⟩] := by unfold castAt; rw [hto, if_neg (by decide)]; rfl
      rw [hto] at hP
      have HC := Lib.hid (tellC_any Hm.out Hbr.out hbn hS.gs HLe.out hP)
      have Hca := Lib.hid hca
      clear hca hP hto hbf
      go_wp2_with (go_at_call 78; refine HC.out.mono ?_; rintro e w1 ⟨rfl, v1, hG1, hF1⟩)
      go_roundg (0)
      case measure => have := Hg.out; omega
      case rel => exact ⟨2, v1, by omega, rfl, by go_num, by rw [HG1.out, List.filter_append, ← List.append_assoc, Hca.out]; exact hS.told hG1 hF1⟩
  · go_wp2
    go_end0
    exact ⟨rfl, v', hS.gs, hS.fr⟩

end Go.Proofs.YthffhhbbhjcdeaaGreatDoor
namespace Go.Proofs.YthffhhbbhjcdeaaGreatDoor
open Go.RowKit
set_option maxRecDepth 100000

theorem castles_any {n₀ b off cap : Nat} {w W : World} {p : Pos} {v : Value} {l : List Mv} (hm : MayP p) (hbr : Brd w b off p.L) (hbn : b < n₀) (hS : GS n₀ w W b off cap p v l) (hl : l.length ≤ 18900) :
    Calls Tryz.prog 77 #[chessV b off cap p, .func (.func 78) #[] #[.pointer (some ⟨n₀ + 2, 0, none⟩)]] W fun e w' => e = .returned (.tuple #[]) ∧ ∃ v', GS n₀ w w' b off cap p v' (l ++ (castG p 2).filter fun m => safeGo p m.fr m.tg) ∧ FrK (n₀ + 1) W w' := by
  rcases hm.ok.turn with ht | ht
  · exact castles_0 hm hbr hbn hS hl ht
  · exact castles_1 hm hbr hbn hS hl ht

end Go.Proofs.YthffhhbbhjcdeaaGreatDoor
