/- WALKS: the program's Name, slices.Contains of moves, newScribe. -/
import Derived.Test.YthffhhbbhjcdeaaGreatDoorC12
import Derived.Test.YthffhhbbhjcdeaaGreatDoorC14
set_option linter.unusedVariables false
set_option linter.unusedSimpArgs false
namespace Go.Proofs.YthffhhbbhjcdeaaGreatDoor
open Go.RowKit
set_option maxRecDepth 100000

set_option maxHeartbeats 1000000 in
theorem nameP_any (n : Nat) (hn : n < 64) (w : World) : Calls Tryz.prog 81 #[.int .i64 n] w (RetB (strV (nameL n)) w) := by
  have hr := run_two
  have hb := bits_seven n hn
  go_enter Tryz.func81, Tryz.ntmps81
  go_wp2
  go_ret
  exact ⟨by rw [← nameL_of]; rfl, (Below.refl _ _).alloc (Nat.le_refl _) _⟩

set_option maxHeartbeats 1000000 in
theorem indexM_any (b off cap : Nat) (l : List Mv) (x y z : Int) (w : World) (hr : MvRow w b off l) (hl : l.length ≤ 100000) :
    Calls Tryz.prog 46 #[.slice (some ⟨b, off, none⟩) l.length cap, .agg #[.int .i64 x, .int .i64 y, .int .i64 z]] w (RetB (.int .i64 (mvIdx l x y z)) w) := by
  have hlt := hr.lt
  have hq := run_eqMove
  go_enter Tryz.func46, Tryz.ntmps46
  go_wp2_with fail
  go_loopg [5, 8] l.length (fun g s5 s8 wx => ∃ k : Nat, k ≤ l.length ∧ g = l.length - k ∧ s8 = .int .i64 k ∧ Blk wx w.heap.size #[.int .i64 x, .int .i64 y, .int .i64 z] ∧ Below w.heap.size w wx ∧ ∀ i, i < k → mvIs (mvAt l i) x y z = false)
  case atStart => exact ⟨0, by omega, rfl, rfl, Blk.new _ _ _, (Below.refl _ _).alloc (Nat.le_refl _) _, fun i hi => absurd hi (by omega)⟩
  case round =>
    obtain ⟨k, hk, hg, rfl, hM, hbel, hz⟩ := hrel
    have Hg := Lib.hid hg
    have Hz := Lib.hid hz
    clear hg hz
    by_cases hkl : k = l.length
    · have Hkl := Lib.hid hkl
      have hge : ¬ k < l.length := by omega
      clear hkl
      go_wp2
      go_ret
      exact ⟨by rw [mvIdx_none (fun i hi => Hz.out i (by have := Hkl.out; omega))]; rfl, hbel⟩
    have hklt : k < l.length := by omega
    clear hkl hk
    obtain ⟨g0, g1, g2⟩ := (hr.below hbel hlt).get k hklt
    have m0 := hM.cell (o := 0) rfl
    have m1 := hM.cell (o := 1) rfl
    have m2 := hM.cell (o := 2) rfl
    have hki : (k : Int) < l.length := by omega
    have hsy : ((x == ((mvAt l k).fr : Int)) && (y == ((mvAt l k).tg : Int)) && (z == (mvAt l k).into)) = mvIs (mvAt l k) x y z := by
      unfold mvIs; rw [Bool.eq_iff_iff]; simp only [Bool.and_eq_true, beq_iff_eq]
      constructor
      · rintro ⟨⟨h1, h2⟩, h3⟩; exact ⟨⟨h1.symm, h2.symm⟩, h3.symm⟩
      · rintro ⟨⟨h1, h2⟩, h3⟩; exact ⟨⟨h1.symm, h2.symm⟩, h3.symm⟩
    cases hv : mvIs (mvAt l k) x y z
    all_goals
      have HV := Lib.hid hv
      rw [hv] at hsy
      clear hv
      go_wp2_with fail
      go_quiet (fail)
      go_wp2
    · go_roundg (l.length - (k + 1))
      case measure => have := Hg.out; omega
      case rel =>
        refine ⟨k + 1, by omega, rfl, by go_num, hM.drewN _, below_drewN hbel _, fun i hi => ?_⟩
        by_cases hik : i = k
        · rw [hik]; exact HV.out
        · exact Hz.out i (by omega)
    · go_ret
      exact ⟨by rw [mvIdx_at hklt HV.out Hz.out]; rfl, below_drewN hbel _⟩

set_option maxHeartbeats 1000000 in
theorem indexM_nil (x y z : Int) (w : World) : Calls Tryz.prog 46 #[.slice none 0 0, .agg #[.int .i64 x, .int .i64 y, .int .i64 z]] w (RetB (.int .i64 (-1)) w) := by
  go_enter Tryz.func46, Tryz.ntmps46
  go_wp2_with fail
  refine wp_loop_rounds 1 ?_
  rw [rounds_succ]
  go_wp2
  go_ret
  exact ⟨rfl, (Below.refl _ _).alloc (Nat.le_refl _) _⟩

theorem indexM_sl (v : Value) (l : List Mv) (x y z : Int) (w : World) (hr : MvSl w v l) (hl : l.length ≤ 100000) : Calls Tryz.prog 46 #[v, .agg #[.int .i64 x, .int .i64 y, .int .i64 z]] w (RetB (.int .i64 (mvIdx l x y z)) w) := by
  rcases hr with ⟨rfl, rfl⟩ | ⟨b, off, cap, rfl, hr⟩
  · exact indexM_nil x y z w
  · exact indexM_any b off cap l x y z w hr hl

def hasMv (l : List Mv) (x y z : Int) : Bool := decide (0 ≤ mvIdx l x y z)
set_option maxHeartbeats 1000000 in
theorem containsM_sl (v : Value) (l : List Mv) (x y z : Int) (w : World) (hr : MvSl w v l) (hl : l.length ≤ 100000) : Calls Tryz.prog 21 #[v, .agg #[.int .i64 x, .int .i64 y, .int .i64 z]] w (RetB (.bool (hasMv l x y z)) w) := by
  obtain ⟨ao, nn, cp, rfl⟩ : ∃ ao n cp, v = .slice ao n cp := by
    rcases hr with ⟨rfl, _⟩ | ⟨b, off, cap, rfl, _⟩
    · exact ⟨_, _, _, rfl⟩
    · exact ⟨_, _, _, rfl⟩
  have hb0 : ∀ o, Below w.heap.size w (w.alloc o) := fun o => (Below.refl _ _).alloc (Nat.le_refl _) o
  have HC := Lib.hid (indexM_sl _ l x y z (w.alloc (.cells #[.int .i64 x, .int .i64 y, .int .i64 z] 26)) (hr.below (hb0 _)) hl)
  unfold hasMv
  generalize mvIdx l x y z = ix at *
  have hM := Blk.new w #[.int .i64 x, .int .i64 y, .int .i64 z] 26
  have m0 := hM.cell (o := 0) rfl
  have m1 := hM.cell (o := 1) rfl
  have m2 := hM.cell (o := 2) rfl
  have HB := Lib.hid hb0
  clear hr hb0 hM
  go_enter Tryz.func21, Tryz.ntmps21
  go_wp2_with (go_at_call 46; refine HC.out.mono ?_; rintro e w1 ⟨rfl, hb1⟩)
  go_ret
  exact ⟨rfl, (HB.out _).trans (hb1.mono (by simp))⟩

/-- A scribe in memory: the position's six cells, then its moves. -/
structure Scr (w : World) (S b off cap : Nat) (p : Pos) (v : Value) : Prop where
  blk : Blk w S #[.slice (some ⟨b, off, none⟩) 64 cap, .int .i64 p.turn, .int .i64 p.castle, .int .i64 p.ep, .int .i64 p.half, .int .i64 p.full, v]
  brd : Brd w b off p.L
  sl : MvSl w v (movesR p)
theorem Scr.below {w w' : World} {S b off cap : Nat} {p : Pos} {v : Value} (h : Scr w S b off cap p v) (hb : Below w.heap.size w w') : Scr w' S b off cap p v :=
  ⟨h.blk.below hb h.blk.lt, h.brd.below hb h.brd.lt, h.sl.below hb⟩

theorem bcell6 {w w' : World} {k : Nat} {c0 c1 c2 c3 c4 c5 : Value} (h : Blk w k #[c0, c1, c2, c3, c4, c5]) (hb : Below w.heap.size w w') :
    w'.cell? ⟨k, 0, none⟩ = some c0 ∧ w'.cell? ⟨k, 1, none⟩ = some c1 ∧ w'.cell? ⟨k, 2, none⟩ = some c2 ∧ w'.cell? ⟨k, 3, none⟩ = some c3 ∧ w'.cell? ⟨k, 4, none⟩ = some c4 ∧ w'.cell? ⟨k, 5, none⟩ = some c5 := by
  have hP := h.below hb h.lt
  exact ⟨hP.cell rfl, hP.cell rfl, hP.cell rfl, hP.cell rfl, hP.cell rfl, hP.cell rfl⟩

set_option maxHeartbeats 4000000 in
theorem newScribe_no (a : Option Addr) (n cap : Nat) (p : Pos) (w : World) (hn : n ≤ 2000000) (hrow : n = 64 → ∃ b off, a = some ⟨b, off, none⟩ ∧ BrdA w b off p.L) (hbd : ∀ i, 64 ≤ i → p.L i = 0) (hwf : ∀ i, -9223372036854775808 ≤ p.L i ∧ p.L i ≤ 9223372036854775807) (hm : mayB n p = false) :
    Calls Tryz.prog 20 #[.agg #[.slice a n cap, .int .i64 p.turn, .int .i64 p.castle, .int .i64 p.ep, .int .i64 p.half, .int .i64 p.full]] w (RetB (.tuple #[.pointer none, .int .i64 12]) w) := by
  have hb0 : ∀ o, Below w.heap.size w (w.alloc o) := fun o => (Below.refl _ _).alloc (Nat.le_refl _) o
  have hM := mayProg_any a n cap p (w.alloc (.cells #[.slice a n cap, .int .i64 p.turn, .int .i64 p.castle, .int .i64 p.ep, .int .i64 p.half, .int .i64 p.full] 24)) hn (fun h => by obtain ⟨b, off, e, hB⟩ := hrow h; exact ⟨b, off, e, hB.below (hb0 _) hB.lt⟩) hbd hwf
  rw [hm] at hM
  have HM := Lib.hid hM
  have HB := Lib.hid hb0
  have hP := Blk.new w #[.slice a n cap, .int .i64 p.turn, .int .i64 p.castle, .int .i64 p.ep, .int .i64 p.half, .int .i64 p.full] 24
  have p0 := hP.cell (o := 0) rfl
  have p1 := hP.cell (o := 1) rfl
  have p2 := hP.cell (o := 2) rfl
  have p3 := hP.cell (o := 3) rfl
  have p4 := hP.cell (o := 4) rfl
  have p5 := hP.cell (o := 5) rfl
  clear hM hrow hbd hwf hm hb0 hP
  go_enter Tryz.func20, Tryz.ntmps20
  go_wp2_with (go_at_call 34; refine HM.out.mono ?_; rintro e w1 ⟨rfl, hb1⟩)
  go_ret2
  exact ⟨rfl, (HB.out _).trans (hb1.mono (by simp))⟩

set_option maxHeartbeats 4000000 in
theorem newScribe_own {b off cap : Nat} {p : Pos} {w : World} (hm : MayP p) (hmay : mayB 64 p = true) (hbr : Brd w b off p.L) :
    Calls Tryz.prog 20 #[chessV b off cap p] w fun e w' => ∃ S v, e = .returned (.tuple #[.pointer (some ⟨S, 0, none⟩), .int .i64 0]) ∧ Scr w' S b off cap p v ∧ w.heap.size ≤ S ∧ (∀ j, v.ownBlock = some j → w.heap.size ≤ j) ∧ Below w.heap.size w w' := by
  have hb0 : ∀ o, Below w.heap.size w (w.alloc o) := fun o => (Below.refl _ _).alloc (Nat.le_refl _) o
  have hM := mayProg_any (some ⟨b, off, none⟩) 64 cap p (w.alloc (.cells #[.slice (some ⟨b, off, none⟩) 64 cap, .int .i64 p.turn, .int .i64 p.castle, .int .i64 p.ep, .int .i64 p.half, .int .i64 p.full] 24)) (by omega) (fun _ => ⟨b, off, rfl, ⟨(hbr.alloc _).lt, (hbr.alloc _).cell⟩⟩) hm.out (fun i => by have := hm.ok.bd i; omega)
  rw [hmay] at hM
  have HM := Lib.hid hM
  have hlt := hbr.lt
  have hP := Blk.new w #[.slice (some ⟨b, off, none⟩) 64 cap, .int .i64 p.turn, .int .i64 p.castle, .int .i64 p.ep, .int .i64 p.half, .int .i64 p.full] 24
  generalize hW0 : w.alloc (.cells #[.slice (some ⟨b, off, none⟩) 64 cap, .int .i64 p.turn, .int .i64 p.castle, .int .i64 p.ep, .int .i64 p.half, .int .i64 p.full] 24) = W0 at *
  have hbw : Below w.heap.size w W0 := by rw [← hW0]; exact hb0 _
  have HW := Lib.hid hW0
  have HmP := Lib.hid hm
  have Hbr := Lib.hid hbr
  have p0 := hP.cell (o := 0) rfl
  have p1 := hP.cell (o := 1) rfl
  have p2 := hP.cell (o := 2) rfl
  have p3 := hP.cell (o := 3) rfl
  have p4 := hP.cell (o := 4) rfl
  have p5 := hP.cell (o := 5) rfl
  clear hM hb0 hmay hm hbr hW0
  unfold chessV
  go_enter Tryz.func20, Tryz.ntmps20
  go_upto_region 1 with fail
  rw [HW.out]
  go_upto_region 3 with (go_at_call 34; refine HM.out.mono ?_; rintro e w1 ⟨rfl, hb1⟩)
  have hP1 := hP.below hb1 hP.lt
  have hb01 : Below w.heap.size w w1 := hbw.trans (hb1.mono hbw.size)
  have hbr1 := Hbr.out.below hb01 hlt
  have hPl := hP1.lt
  clear p0 p1 p2 p3 p4 p5 hP
  have p0 := hP1.cell (o := 0) rfl
  have p1 := hP1.cell (o := 1) rfl
  have p2 := hP1.cell (o := 2) rfl
  have p3 := hP1.cell (o := 3) rfl
  have p4 := hP1.cell (o := 4) rfl
  have p5 := hP1.cell (o := 5) rfl
  have hC := movesP_own (cap := cap) HmP.out (w := w1.drew) (b := b) (off := off) ⟨hbr1.lt, hbr1.cell, hbr1.bd⟩
  unfold chessV at hC
  have HC := Lib.hid hC
  clear hC
  go_region_held3 (fun w' => w'.cell? ⟨w.heap.size, 0, none⟩ = some (.slice (some ⟨b, off, none⟩) 64 cap) ∧ w'.cell? ⟨w.heap.size, 1, none⟩ = some (.int .i64 p.turn) ∧ w'.cell? ⟨w.heap.size, 2, none⟩ = some (.int .i64 p.castle) ∧ w'.cell? ⟨w.heap.size, 3, none⟩ = some (.int .i64 p.ep) ∧ w'.cell? ⟨w.heap.size, 4, none⟩ = some (.int .i64 p.half) ∧ w'.cell? ⟨w.heap.size, 5, none⟩ = some (.int .i64 p.full))
    (first | exact bcell6 hP1 ((((Below.refl w1.heap.size w1).drew).trans hb2)) | exact bcell6 hP1 (((((Below.refl w1.heap.size w1).drew).trans hb2)).alloc hb2.size _) | go_keep)
    (first
      | (go_at_call 45; refine HC.out.mono ?_; rintro e w2 ⟨v, rfl, hsl, hov, hb2⟩; obtain ⟨ao, nn, cp, rfl⟩ : ∃ ao n cp, v = .slice ao n cp := (by rcases hsl with ⟨rfl, _⟩ | ⟨b, off, cap, rfl, _⟩ <;> exact ⟨_, _, _, rfl⟩)))
  go_wp2
  go_ret2
  have hb12 : Below w1.heap.size w1 w2 := ((Below.refl _ w1).drew).trans hb2
  have hb02 : Below w.heap.size w w2 := hb01.trans (hb12.mono hb01.size)
  refine ⟨w2.heap.size, _, rfl, ⟨Blk.new w2 _ _, ((Hbr.out.below hb02 hlt).alloc _), hsl.below ((Below.refl _ _).alloc (Nat.le_refl _) _)⟩, hb02.size, (fun j hj => Nat.le_trans hb01.size (hov j hj)), hb02.alloc hb02.size _⟩

theorem newScribe_yes {b off cap : Nat} {p : Pos} {w : World} (hm : MayP p) (hmay : mayB 64 p = true) (hbr : Brd w b off p.L) :
    Calls Tryz.prog 20 #[chessV b off cap p] w fun e w' => ∃ S v, e = .returned (.tuple #[.pointer (some ⟨S, 0, none⟩), .int .i64 0]) ∧ Scr w' S b off cap p v ∧ Below w.heap.size w w' :=
  (newScribe_own hm hmay hbr).mono fun _ _ ⟨S, v, h1, h2, _, _, h3⟩ => ⟨S, v, h1, h2, h3⟩

end Go.Proofs.YthffhhbbhjcdeaaGreatDoor
