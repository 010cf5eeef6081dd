/- WALKS: the origin of a piece, as far as it must be told. -/
import Derived.Test.YthffhhbbhjcdeaaGreatDoorD2
import Derived.Test.YthffhhbbhjcdeaaGreatDoorA14
set_option linter.unusedVariables false
set_option linter.unusedSimpArgs false
namespace Go.Proofs.YthffhhbbhjcdeaaGreatDoor
open Go.RowKit
set_option maxRecDepth 100000

theorem EN0.later {w wx w1 : World} {S b off cap : Nat} {p : Pos} {v : Value} {m : Mv} (h : EN0 w wx S b off cap p v m) (hb : Below wx.heap.size wx w1) : EN0 w w1 S b off cap p v m :=
  ⟨h.scr.below hb, h.kM.below hb h.kM.lt, h.below.trans (hb.mono h.below.size)⟩

set_option maxHeartbeats 8000000 in
theorem originP_any {S b off cap : Nat} {p : Pos} {v : Value} {w : World} {m : Mv} (hs : Scr w S b off cap p v) (hf : m.fr < 64) (ht : m.tg < 64) (hin : ∀ q, q ∈ movesR p → q.fr < 64 ∧ q.tg < 64) :
    Calls Tryz.prog 83 #[.pointer (some ⟨S, 0, none⟩), mvV m] w (RetB (strV (originL p m)) w) := by
  have hor : originL p m = originOf (ambA p m (movesR p)) (ambF p m (movesR p)) (ambR p m (movesR p)) (nameL m.fr) := rfl
  have hmax : (movesR p).length ≤ 16384 := movesUpto_le p 64
  rw [hor]
  clear hor
  have hmf := bits_seven m.fr hf
  have hN := fun w => nameP_any m.fr hf w
  obtain ⟨na, nb, hnm⟩ : ∃ na nb, nameL m.fr = [na, nb] := ⟨_, _, rfl⟩
  rw [hnm] at hN ⊢
  replace hN : ∀ w, Calls Tryz.prog 81 #[.int .i64 m.fr] w (RetB (.string ⟨#[na, nb]⟩) w) := hN
  have HN := Lib.hid hN
  clear hN hnm
  generalize hl : movesR p = l at *
  have hsl := hs.sl
  rw [hl] at hsl
  have Hl := Lib.hid hl
  have HS := Lib.hid hs
  have HI := Lib.hid hin
  have hSl := hs.blk.lt
  clear hl hs hin
  unfold mvV
  rcases hsl with ⟨rfl, rfl⟩ | ⟨gb, go, gc, rfl, hr⟩
  · go_enter Tryz.func83, Tryz.ntmps83
    go_upto_region 1 with fail
    generalize hW0 : World.alloc _ _ = W0
    have hE : EN0 w W0 S b off cap p (.slice none 0 0) m := by
      have hb0 : Below w.heap.size w W0 := by rw [← hW0]; exact (Below.refl _ _).alloc (Nat.le_refl _) _
      exact ⟨HS.out.below hb0, by rw [← hW0]; exact Blk.new _ _ _, hb0⟩
    clear hW0
    have m0 := hE.kM.cell (o := 0) rfl
    go_upto_region 2 with (go_at_call 81; refine (HN.out _).mono ?_; rintro e w1 ⟨rfl, hb1⟩)
    have hE1 := hE.later hb1
    have s6 := hE1.scr.blk.cell (o := 6) rfl
    clear m0
    go_wp2_with fail
    refine wp_loop_rounds 1 ?_
    rw [rounds_succ]
    go_wp2
    go_ret
    exact ⟨rfl, hE1.below⟩
  · go_enter Tryz.func83, Tryz.ntmps83
    go_upto_region 1 with fail
    generalize hW0 : World.alloc _ _ = W0
    have hE : EN0 w W0 S b off cap p (.slice (some ⟨gb, go, none⟩) l.length gc) m := by
      have hb0 : Below w.heap.size w W0 := by rw [← hW0]; exact (Below.refl _ _).alloc (Nat.le_refl _) _
      exact ⟨HS.out.below hb0, by rw [← hW0]; exact Blk.new _ _ _, hb0⟩
    clear hW0
    have m0 := hE.kM.cell (o := 0) rfl
    go_upto_region 2 with (go_at_call 81; refine (HN.out _).mono ?_; rintro e w1 ⟨rfl, hb1⟩)
    have hE1 := hE.later hb1
    have s6 := hE1.scr.blk.cell (o := 6) rfl
    clear m0 hE
    have HE1 := Lib.hid hE1
    go_wp2_with fail
    go_loopg [6, 7, 8, 10, 19] l.length (fun g s6 s7 s8 s10 s19 wx => ∃ k : Nat, k ≤ l.length ∧ g = l.length - k ∧ s19 = .int .i64 k ∧ s6 = .bool (ambA p m (l.take k)) ∧ s7 = .bool (ambF p m (l.take k)) ∧ s8 = .bool (ambR p m (l.take k)) ∧ EN0 w wx S b off cap p (.slice (some ⟨gb, go, none⟩) l.length gc) m)
    case atStart => exact ⟨0, by omega, rfl, rfl, rfl, rfl, rfl, HE1.out⟩
    case round =>
    clear s6 hE1 HE1
    obtain ⟨k, hk, hg, rfl, rfl, rfl, rfl, hE⟩ := hrel
    have Hg := Lib.hid hg
    clear hg
    by_cases hkl : k = l.length
    · subst hkl
      rw [List.take_length]
      generalize ambA p m l = a at *
      generalize ambF p m l = f at *
      generalize ambR p m l = r at *
      cases a
      · go_wp2
        go_ret
        exact ⟨rfl, hE.below⟩
      cases f
      · go_wp2
        go_ret
        exact ⟨rfl, hE.below⟩
      cases r
      · go_wp2
        go_ret
        exact ⟨rfl, hE.below⟩
      · go_wp2
        go_ret
        exact ⟨rfl, hE.below⟩
    have hklt : k < l.length := by omega
    have ha := ambA_succ p m l k hklt
    have hfl := ambF_succ p m l k hklt
    have hra := ambR_succ p m l k hklt
    clear hkl hk
    obtain ⟨g0, g1, g2⟩ := (hr.below (B := w.heap.size) hE.below hr.lt).get k hklt
    have hq := HI.out (mvAt l k) (by rw [← Hl.out] at hklt ⊢; exact mvAt_mem hklt)
    obtain ⟨q1, q2⟩ := hq
    have hrv : rival p m (mvAt l k) = (((mvAt l k).fr != m.fr) && ((mvAt l k).tg == m.tg) && (p.L (mvAt l k).fr == p.L m.fr)) := rfl
    have hqf := bits_seven (mvAt l k).fr q1
    have hbr := hE.scr.brd
    have cq := hbr.cell (mvAt l k).fr q1
    have cm := hbr.cell m.fr hf
    have s0 := hE.scr.blk.cell (o := 0) rfl
    have m0 := hE.kM.cell (o := 0) rfl
    have m1 := hE.kM.cell (o := 1) rfl
    have hki : (k : Int) < l.length := by omega
    generalize mvAt l k = q at *
    have Hfl := Lib.hid hfl
    have Hra := Lib.hid hra
    have Ha := Lib.hid ha
    have Hrv := Lib.hid hrv
    clear ha hfl hra hrv
    clear s0 m0 m1 cq cm hbr
    generalize hfa : ambA p m (l.take k) = a0 at *
    generalize hff : ambF p m (l.take k) = f0 at *
    generalize hfr : ambR p m (l.take k) = r0 at *
    clear hfa hff hfr
    go_upto_region 6 with fail
    generalize hWb : World.alloc _ _ = Wb
    have hbb : Below wr.heap.size wr Wb := by rw [← hWb]; exact (Below.refl _ _).alloc (Nat.le_refl _) _
    have hX : Blk Wb wr.heap.size #[.int .i64 q.fr, .int .i64 q.tg, .int .i64 q.into] := by rw [← hWb]; exact Blk.new _ _ _
    clear hWb g0 g1 g2
    have hEb := hE.later hbb
    clear hE
    have hbr := hEb.scr.brd
    have cq := hbr.cell q.fr q1
    have cm := hbr.cell m.fr hf
    have s0 := hEb.scr.blk.cell (o := 0) rfl
    have m0 := hEb.kM.cell (o := 0) rfl
    have m1 := hEb.kM.cell (o := 1) rfl
    have x0 := hX.cell (o := 0) rfl
    have x1 := hX.cell (o := 1) rfl
    have hfi : (m.fr : Int) < 64 := by omega
    have hqi : (q.fr : Int) < 64 := by omega
    cases e1 : ((q.tg : Int) != m.tg)
    case true =>
      have hriv : rival p m q = false := by rw [Hrv.out]; rw [bneNat] at e1; simp at e1; simp [e1]
      have Hriv := Lib.hid hriv
      clear hriv
      go_quiet (fail)
      go_wp2
      go_roundg (l.length - (k + 1))
      case measure => have := Hg.out; omega
      case rel => exact ⟨k + 1, by omega, rfl, by go_num, by rw [Ha.out, Hriv.out, Bool.or_false], by rw [Hfl.out, Hriv.out]; simp, by rw [Hra.out, Hriv.out]; simp, hEb.later (below_drewN (Below.refl _ _) _)⟩
    case false =>
    cases e2 : ((q.fr : Int) == m.fr)
    case true =>
      have hriv : rival p m q = false := by rw [Hrv.out]; rw [beqNat] at e2; simp at e2; simp [e2]
      have Hriv := Lib.hid hriv
      clear hriv
      go_quiet (fail)
      go_wp2
      go_roundg (l.length - (k + 1))
      case measure => have := Hg.out; omega
      case rel => exact ⟨k + 1, by omega, rfl, by go_num, by rw [Ha.out, Hriv.out, Bool.or_false], by rw [Hfl.out, Hriv.out]; simp, by rw [Hra.out, Hriv.out]; simp, hEb.later (below_drewN (Below.refl _ _) _)⟩
    case false =>
    cases e3 : (p.L q.fr != p.L m.fr)
    case true =>
      have hriv : rival p m q = false := by rw [Hrv.out]; simp at e3; simp [e3]
      have Hriv := Lib.hid hriv
      clear hriv
      go_quiet (fail)
      go_wp2
      go_roundg (l.length - (k + 1))
      case measure => have := Hg.out; omega
      case rel => exact ⟨k + 1, by omega, rfl, by go_num, by rw [Ha.out, Hriv.out, Bool.or_false], by rw [Hfl.out, Hriv.out]; simp, by rw [Hra.out, Hriv.out]; simp, hEb.later (below_drewN (Below.refl _ _) _)⟩
    case false =>
    have hriv : rival p m q = true := by rw [Hrv.out]; rw [bneNat] at e1; rw [beqNat] at e2; simp at e1 e2 e3; simp [e1, e2, e3]
    have Hriv := Lib.hid hriv
    clear hriv
    go_upto_region 6 with fail
    go_cut [55] from 23 to 55 (fun s55 wx => s55 = .bool false ∧ ∃ n, wx = Wb.drewN n)
    case first =>
      go_quiet (fail)
      go_wp2
      go_meet
      exact ⟨rfl, nq, rfl⟩
    case rest =>
    obtain ⟨rfl, nq, rfl⟩ := hcut
    clear cq cm s0 m0 m1 x0 x1 hbr e1 e2 e3
    have hEc := hEb.later (below_drewN (Below.refl _ _) nq)
    have hXc : Blk (Wb.drewN nq) wr.heap.size #[.int .i64 q.fr, .int .i64 q.tg, .int .i64 q.into] := hX.drewN nq
    clear hEb hX hbb
    generalize Wb.drewN nq = Wc at *
    have m0 := hEc.kM.cell (o := 0) rfl
    have x0 := hXc.cell (o := 0) rfl
    go_upto_region 8 with fail
    go_cut [7] from 56 to 65 (fun s7 wx => wx = Wc ∧ s7 = .bool (f0 || (q.fr % 8 == m.fr % 8)))
    case first =>
      cases f0
      case true =>
        go_wp2
        go_meet
        exact ⟨rfl, rfl⟩
      case false =>
        go_wp2
        go_meet
        exact ⟨rfl, by rw [← beqMod]; rfl⟩
    case rest =>
    obtain ⟨rfl, rfl⟩ := hcut
    cases r0
    case true =>
      go_wp2
      go_roundg (l.length - (k + 1))
      case measure => have := Hg.out; omega
      case rel => exact ⟨k + 1, by omega, rfl, by go_num, by rw [Ha.out, Hriv.out, Bool.or_true], by rw [Hfl.out, Hriv.out]; simp, by rw [Hra.out, Hriv.out]; simp, hEc⟩
    case false =>
      go_wp2
      go_roundg (l.length - (k + 1))
      case measure => have := Hg.out; omega
      case rel => exact ⟨k + 1, by omega, rfl, by go_num, by rw [Ha.out, Hriv.out, Bool.or_true], by rw [Hfl.out, Hriv.out]; simp, by rw [Hra.out, Hriv.out, ← beqDiv]; simp, hEc⟩

end Go.Proofs.YthffhhbbhjcdeaaGreatDoor
