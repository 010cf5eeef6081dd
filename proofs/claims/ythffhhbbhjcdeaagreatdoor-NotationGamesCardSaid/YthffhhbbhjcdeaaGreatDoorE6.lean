/- WALKS: the reference's copy of an empty board. WALKS: the law NotationWords. The law NotationWords answers true, whatever came in. -/
import Derived.Test.YthffhhbbhjcdeaaGreatDoorE4
set_option linter.unusedVariables false
set_option linter.unusedSimpArgs false
namespace Go.Proofs.YthffhhbbhjcdeaaGreatDoor
open Go.RowKit
set_option maxRecDepth 100000

set_option maxHeartbeats 1000000 in
theorem ints_zero (ao : Option Addr) (cap : Nat) (w : World) :
    Calls Tryz.prog 23 #[.slice ao 0 cap] w (RetB (.slice none 0 0) w) := by
  go_enter Tryz.func23, Tryz.ntmps23
  cases ao with
  | none =>
    go_wp2
    go_ret
    exact ⟨rfl, Below.refl _ _⟩
  | some a =>
    go_wp2
    go_ret
    exact ⟨rfl, Below.refl _ _⟩

set_option maxHeartbeats 1000000 in
theorem chessOf_zero (ao : Option Addr) (cap : Nat) (c1 c2 c3 c4 c5 : Int) (w : World) :
    Calls Tryz.prog 6 #[.agg #[.slice ao 0 cap, .int .i64 c1, .int .i64 c2, .int .i64 c3, .int .i64 c4, .int .i64 c5]] w (RetB (.agg #[.slice none 0 0, .int .i64 c1, .int .i64 c2, .int .i64 c3, .int .i64 c4, .int .i64 c5]) w) := by
  go_enter Tryz.func6, Tryz.ntmps6
  go_upto_region 1 with fail
  generalize hW0 : World.alloc _ _ = W0
  have hP : Blk W0 w.heap.size #[.slice ao 0 cap, .int .i64 c1, .int .i64 c2, .int .i64 c3, .int .i64 c4, .int .i64 c5] := by rw [← hW0]; exact (Blk.new w _ _).alloc _
  have hR : Blk W0 (w.heap.size + 1) #[.slice none 0 0, .int .i64 0, .int .i64 0, .int .i64 0, .int .i64 0, .int .i64 0] := by rw [← hW0]; exact Blk.new' (by simp) _ _
  have hb : Below w.heap.size w W0 := by rw [← hW0]; exact ((Below.refl _ _).alloc (Nat.le_refl _) _).alloc (by simp) _
  have hsz : W0.heap.size = w.heap.size + 2 := by rw [← hW0]; simp
  clear hW0
  have HP := Lib.hid hP
  have HR := Lib.hid hR
  have HZ := Lib.hid hsz
  have p0 := hP.cell (o := 0) rfl
  clear hP hR hsz
  go_cut [] (fun wx => Blk wx w.heap.size #[.slice none 0 0, .int .i64 c1, .int .i64 c2, .int .i64 c3, .int .i64 c4, .int .i64 c5] ∧ Blk wx (w.heap.size + 1) #[.slice none 0 0, .int .i64 0, .int .i64 0, .int .i64 0, .int .i64 0, .int .i64 0] ∧ Below w.heap.size w wx)
  case first =>
    go_wp2_with fail
    refine (ints_zero ao cap _).mono ?_
    rintro e w1 ⟨rfl, hb1⟩
    rw [HZ.out] at hb1
    have hP1 := HP.out.below hb1 (by omega)
    have hR1 := HR.out.below hb1 (by omega)
    have q0 := hP1.cell (o := 0) rfl
    have f0 := hP1.free 0
    go_wp2
    go_meet
    refine ⟨hP1.set 0 _, hR1.other (by omega) _ _, (hb.trans (hb1.mono (by omega))).setCell (by simp) _⟩
  case rest =>
  obtain ⟨hP1, hR1, hb1⟩ := hcut
  go_upto_region 2 with fail
  go_cut [] (fun wx => Blk wx (w.heap.size + 1) #[.slice none 0 0, .int .i64 c1, .int .i64 c2, .int .i64 c3, .int .i64 c4, .int .i64 c5] ∧ Below w.heap.size w wx)
  case first =>
    have p0 := hP1.cell (o := 0) rfl
    have p1 := hP1.cell (o := 1) rfl
    have p2 := hP1.cell (o := 2) rfl
    have p3 := hP1.cell (o := 3) rfl
    have p4 := hP1.cell (o := 4) rfl
    have p5 := hP1.cell (o := 5) rfl
    have r0 := hR1.cell (o := 0) rfl
    have r1 := hR1.cell (o := 1) rfl
    have r2 := hR1.cell (o := 2) rfl
    have r3 := hR1.cell (o := 3) rfl
    have r4 := hR1.cell (o := 4) rfl
    have r5 := hR1.cell (o := 5) rfl
    have f0 := hR1.free 0
    have f1 := hR1.free 1
    have f2 := hR1.free 2
    have f3 := hR1.free 3
    have f4 := hR1.free 4
    have f5 := hR1.free 5
    go_wp2
    go_meet
    refine ⟨(((((hR1.set 0 _).set 1 _).set 2 _).set 3 _).set 4 _).set 5 _, ?_⟩
    · iterate 6 refine Below.setCell ?_ (by simp) _
      exact hb1
  case rest =>
  obtain ⟨hR2, hb2⟩ := hcut
  go_wp2
  exact bodyPost_ret (ret_chess rfl rfl hR2) rfl ⟨rfl, hb2⟩


/-- A board that came in: empty, or its cells lie at an address. -/
def BoardIn (w : World) (a : Option Addr) (n : Nat) (Z : Nat → Int) : Prop := n = 0 ∨ ∃ b off, a = some ⟨b, off, none⟩ ∧ b < w.heap.size ∧ ∀ i, i < n → w.cell? ⟨b, off + i, none⟩ = some (.int .i64 (Z i))
theorem BoardIn.below {w w' : World} {a : Option Addr} {n : Nat} {Z : Nat → Int} (h : BoardIn w a n Z) (hb : Below w.heap.size w w') : BoardIn w' a n Z := by
  rcases h with h | ⟨b, off, rfl, hlt, hc⟩
  · exact .inl h
  · exact .inr ⟨b, off, rfl, Nat.lt_of_lt_of_le hlt hb.size, fun i hi => (hb.cell (p := ⟨b, off + i, none⟩) hlt).trans (hc i hi)⟩
theorem BoardIn.row {w : World} {a : Option Addr} {n : Nat} {Z L : Nat → Int} (h : BoardIn w a n Z) (hn : n = 64) (hL : ∀ i, i < 64 → L i = Z i) : ∃ b off, a = some ⟨b, off, none⟩ ∧ BrdA w b off L := by
  rcases h with h | ⟨b, off, rfl, hlt, hc⟩
  · omega
  · exact ⟨b, off, rfl, hlt, fun i hi => by rw [hL i hi]; exact hc i (by omega)⟩

theorem row_brd {w : World} {base n : Nat} {a : Option Addr} {cp : Nat} {Z L : Nat → Int} (h : w.ownsRow base 3 1 (.slice a n cp) n (intsV Z n)) (hn : n = 64) (hL : ∀ i, i < 64 → L i = Z i) : ∃ b off, a = some ⟨b, off, none⟩ ∧ BrdA w b off L := by
  obtain ⟨_, ⟨hv, h0⟩ | ⟨g, cap, cur, hv, hg, hh, hcn, hcap, hsz, ht⟩⟩ := h
  · omega
  · injection hv with e1 e2 e3
    subst e1
    refine ⟨g, 0, rfl, (Array.getElem?_eq_some_iff.1 hh).1, fun i hi => ?_⟩
    have hi' : i < n := by omega
    have hcur : cur.toList[i]? = some (.int .i64 (Z i)) := by
      have : (cur.toList.take (n * 1))[i]? = some (.int .i64 (Z i)) := by rw [ht]; simp [intsV, hi']
      rw [List.getElem?_take_of_lt (by omega)] at this
      exact this
    rw [hL i hi]
    unfold World.cell?
    rw [hh]
    simpa using hcur

theorem chessOf_in {a : Option Addr} {n cap : Nat} {Z : Nat → Int} {p : Pos} {w : World} (hin : BoardIn w a n Z) (hn : n ≤ 1048576) (hL : n = 64 → ∀ i, i < 64 → p.L i = Z i) :
    Calls Tryz.prog 6 #[.agg #[.slice a n cap, .int .i64 p.turn, .int .i64 p.castle, .int .i64 p.ep, .int .i64 p.half, .int .i64 p.full]] w fun e w' =>
      ∃ a' cap', e = .returned (.agg #[.slice a' n cap', .int .i64 p.turn, .int .i64 p.castle, .int .i64 p.ep, .int .i64 p.half, .int .i64 p.full]) ∧ (n = 64 → ∃ b off, a' = some ⟨b, off, none⟩ ∧ BrdA w' b off p.L) ∧ Below w.heap.size w w' := by
  rcases hin with h | ⟨b, off, rfl, hlt, hc⟩
  · subst h
    refine (chessOf_zero a cap _ _ _ _ _ w).mono ?_
    rintro e w' ⟨rfl, hb⟩
    exact ⟨_, _, rfl, fun h => absurd h (by decide), hb⟩
  · refine (chessOf_any b off n cap Z _ _ _ _ _ w hlt hn hc).mono ?_
    rintro e w' ⟨v, rfl, hown, hb⟩
    obtain ⟨a', cp, rfl⟩ := ownsRow_slice hown
    exact ⟨_, _, rfl, fun h => row_brd hown h (hL h), hb⟩

end Go.Proofs.YthffhhbbhjcdeaaGreatDoor
namespace Go.Proofs.YthffhhbbhjcdeaaGreatDoor
open Go.RowKit
set_option maxRecDepth 100000

structure LW (w wx : World) (a : Option Addr) (n cap : Nat) (p : Pos) (x y z : Int) : Prop where
  kP : Blk wx w.heap.size #[.slice a n cap, .int .i64 p.turn, .int .i64 p.castle, .int .i64 p.ep, .int .i64 p.half, .int .i64 p.full]
  kM : Blk wx (w.heap.size + 1) #[.int .i64 x, .int .i64 y, .int .i64 z]
  below : Below w.heap.size w wx
theorem LW.trans {w wx w1 : World} {a : Option Addr} {n cap : Nat} {p : Pos} {x y z : Int} (h : LW w wx a n cap p x y z) (hb : Below wx.heap.size wx w1) : LW w w1 a n cap p x y z :=
  ⟨h.kP.below hb h.kP.lt, h.kM.below hb h.kM.lt, h.below.trans (hb.mono h.below.size)⟩
theorem LW.cells {w wx : World} {a : Option Addr} {n cap : Nat} {p : Pos} {x y z : Int} (h : LW w wx a n cap p x y z) :
    wx.cell? ⟨w.heap.size, 0, none⟩ = some (.slice a n cap) ∧ wx.cell? ⟨w.heap.size, 1, none⟩ = some (.int .i64 p.turn) ∧ wx.cell? ⟨w.heap.size, 2, none⟩ = some (.int .i64 p.castle) ∧ wx.cell? ⟨w.heap.size, 3, none⟩ = some (.int .i64 p.ep) ∧ wx.cell? ⟨w.heap.size, 4, none⟩ = some (.int .i64 p.half) ∧ wx.cell? ⟨w.heap.size, 5, none⟩ = some (.int .i64 p.full) ∧ wx.cell? ⟨w.heap.size + 1, 0, none⟩ = some (.int .i64 x) ∧ wx.cell? ⟨w.heap.size + 1, 1, none⟩ = some (.int .i64 y) ∧ wx.cell? ⟨w.heap.size + 1, 2, none⟩ = some (.int .i64 z) :=
  ⟨h.kP.cell rfl, h.kP.cell rfl, h.kP.cell rfl, h.kP.cell rfl, h.kP.cell rfl, h.kP.cell rfl, h.kM.cell rfl, h.kM.cell rfl, h.kM.cell rfl⟩

set_option maxHeartbeats 4000000 in
theorem law_no {a : Option Addr} {n cap : Nat} {Z : Nat → Int} {p : Pos} (x y z : Int) (s : List UInt8) {w : World} (hin : BoardIn w a n Z) (hn : n ≤ 1048576) (hL : n = 64 → ∀ i, i < 64 → p.L i = Z i) (hbd : ∀ i, 64 ≤ i → p.L i = 0) (hwf : ∀ i, -9223372036854775808 ≤ p.L i ∧ p.L i ≤ 9223372036854775807) (hm : mayB n p = false) :
    Calls Tryz.prog 3 #[.agg #[.slice a n cap, .int .i64 p.turn, .int .i64 p.castle, .int .i64 p.ep, .int .i64 p.half, .int .i64 p.full], .agg #[.int .i64 x, .int .i64 y, .int .i64 z], strV s] w (RetB (.bool true) w) := by
  have hC : ∀ w1, Below w.heap.size w w1 → _ := fun w1 hb => chessOf_in (cap := cap) (hin.below hb) hn hL
  have hW := fun a' cap' w1 hrow => writeP_no a' n cap' p x y z w1 (by omega) hrow hbd hwf hm
  have hQ := fun a' cap' w1 hrow => parseQ_no a' n cap' p s w1 (by omega) hrow hbd hwf hm
  have hM : ∀ w1, Below w.heap.size w w1 → _ := fun w1 hb => chessMay_any a n cap p w1 (by omega) (fun h => (hin.below hb).row h (hL h)) hbd
  simp only [hm] at hM
  unfold strV at hW hQ ⊢
  unfold mvV at hQ
  have HC := Lib.hid hC
  have HW := Lib.hid hW
  have HQ := Lib.hid hQ
  have HM := Lib.hid hM
  clear hC hW hQ hM hin hL hbd hwf hm hn
  go_enter Tryz.func3, Tryz.ntmps3
  go_upto_region 1 with fail
  generalize hW0 : World.alloc _ _ = W0
  have hS : LW w W0 a n cap p x y z := by
    rw [← hW0]; exact ⟨(Blk.new w _ _).alloc _, Blk.new' (by simp) _ _, ((Below.refl _ _).alloc (Nat.le_refl _) _).alloc (by simp) _⟩
  clear hW0
  go_cut [7, 8] from 14 to 20 (fun s7 s8 wx => s7 = .string ⟨#[]⟩ ∧ s8 = .int .i64 12 ∧ LW w wx a n cap p x y z)
  case first =>
    obtain ⟨p0, p1, p2, p3, p4, p5, m0, m1, m2⟩ := hS.cells
    have hbd : Below W0.heap.size W0 W0.drew := (Below.refl _ W0).drew
    have hbw := (hS.trans hbd).below
    go_region_held3 (fun w' => w'.cell? ⟨w.heap.size, 0, none⟩ = some (.slice a n cap) ∧ w'.cell? ⟨w.heap.size, 1, none⟩ = some (.int .i64 p.turn) ∧ w'.cell? ⟨w.heap.size, 2, none⟩ = some (.int .i64 p.castle) ∧ w'.cell? ⟨w.heap.size, 3, none⟩ = some (.int .i64 p.ep) ∧ w'.cell? ⟨w.heap.size, 4, none⟩ = some (.int .i64 p.half) ∧ w'.cell? ⟨w.heap.size, 5, none⟩ = some (.int .i64 p.full) ∧ w'.cell? ⟨w.heap.size + 1, 0, none⟩ = some (.int .i64 x) ∧ w'.cell? ⟨w.heap.size + 1, 1, none⟩ = some (.int .i64 y) ∧ w'.cell? ⟨w.heap.size + 1, 2, none⟩ = some (.int .i64 z))
      (first | exact (hS.trans ((hbd.trans hb1).trans (hb2.mono hb1.size))).cells | exact (hS.trans (hbd.trans hb1)).cells | exact (hS.trans hbd).cells | go_keep)
      (first
        | (go_at_call 6; refine (HC.out _ hbw).mono ?_; rintro e w1 ⟨a', cap', rfl, hrow, hb1⟩)
        | (go_at_call 5; refine (HW.out _ _ _ hrow).mono ?_; rintro e w2 ⟨rfl, hb2⟩))
    go_wp2
    go_meet
    exact ⟨rfl, rfl, hS.trans ((hbd.trans hb1).trans (hb2.mono hb1.size))⟩
  case rest =>
  clear hS
  obtain ⟨rfl, rfl, hS⟩ := hcut
  obtain ⟨p0, p1, p2, p3, p4, p5, m0, m1, m2⟩ := hS.cells
  have hbw := hS.below
  go_upto_region 4 with (first
        | (go_at_call 6; refine (HC.out _ hbw).mono ?_; rintro e w1 ⟨a', cap', rfl, hrow, hb1⟩)
        | (go_at_call 7; refine (HQ.out _ _ _ hrow).mono ?_; rintro e w2 ⟨rfl, hb2⟩))
  have hb := hb1.trans (hb2.mono hb1.size)
  have h2 := hS.trans hb
  clear hS p0 p1 p2 p3 p4 p5 m0 m1 m2 hbw hb1 hb2 hrow hb
  generalize hW1 : World.alloc (World.alloc w2 _) _ = W1
  have hS : LW w W1 a n cap p x y z := by rw [← hW1]; exact h2.trans (((Below.refl _ _).alloc (Nat.le_refl _) _).alloc (by simp) _)
  have hX : Blk W1 w2.heap.size #[.int .i64 0, .int .i64 0, .int .i64 0] := by rw [← hW1]; exact (Blk.new _ _ _).alloc _
  have hZ : Blk W1 (w2.heap.size + 1) #[.int .i64 0, .int .i64 0, .int .i64 0] := by rw [← hW1]; exact Blk.new' (by simp) _ _
  clear hW1 h2
  have hbw := hS.below
  obtain ⟨p0, p1, p2, p3, p4, p5, -, -, -⟩ := hS.cells
  go_upto_region 5 with (go_at_call 8; refine (HM.out _ hbw).mono ?_; rintro e w3 ⟨rfl, hb3⟩)
  clear p0 p1 p2 p3 p4 p5
  have hX := hX.below hb3 hX.lt
  have hZ := hZ.below hb3 hZ.lt
  have x0 := hX.cell (o := 0) rfl
  have x1 := hX.cell (o := 1) rfl
  have x2 := hX.cell (o := 2) rfl
  have z0 := hZ.cell (o := 0) rfl
  have z1 := hZ.cell (o := 1) rfl
  have z2 := hZ.cell (o := 2) rfl
  go_wp2
  go_ret
  exact ⟨rfl, (hS.trans hb3).below⟩

def HELD (w w' : World) (a : Option Addr) (n cap : Nat) (p : Pos) (x y z : Int) : Prop := w'.cell? ⟨w.heap.size, 0, none⟩ = some (.slice a n cap) ∧ w'.cell? ⟨w.heap.size, 1, none⟩ = some (.int .i64 p.turn) ∧ w'.cell? ⟨w.heap.size, 2, none⟩ = some (.int .i64 p.castle) ∧ w'.cell? ⟨w.heap.size, 3, none⟩ = some (.int .i64 p.ep) ∧ w'.cell? ⟨w.heap.size, 4, none⟩ = some (.int .i64 p.half) ∧ w'.cell? ⟨w.heap.size, 5, none⟩ = some (.int .i64 p.full) ∧ w'.cell? ⟨w.heap.size + 1, 0, none⟩ = some (.int .i64 x) ∧ w'.cell? ⟨w.heap.size + 1, 1, none⟩ = some (.int .i64 y) ∧ w'.cell? ⟨w.heap.size + 1, 2, none⟩ = some (.int .i64 z)

/-- What the two results hold, told once. -/
structure Told (p : Pos) (x y z : Int) (s S7 : List UInt8) (C8 i j k F : Int) (ok : Bool) : Prop where
  pw : parseW (progParse p s) = .tuple #[.agg #[.int .i64 i, .int .i64 j, .int .i64 k], .int .i64 F]
  pv : parseV (parseL p s) = .tuple #[.agg #[.int .i64 i, .int .i64 j, .int .i64 k], .bool ok]
  both : (ok = true ∧ F = 0) ∨ (ok = false ∧ F = 1 ∧ i = 0 ∧ j = 0 ∧ k = 0)
  fin : (mvIdx (movesR p) x y z < 0 ∧ S7 = [] ∧ C8 = 8) ∨ (¬ mvIdx (movesR p) x y z < 0 ∧ C8 = 0 ∧ ∃ m, m ∈ movesR p ∧ (m.fr : Int) = x ∧ (m.tg : Int) = y ∧ m.into = z ∧ S7 = plainL p m ++ endL p m)

set_option maxHeartbeats 8000000 in
theorem law_yes {b off cap : Nat} {p : Pos} {x y z : Int} {s S7 : List UInt8} {C8 i j k F : Int} {ok : Bool} {w : World} (hm : MayP p) (hmay : mayB 64 p = true) (hbr : Brd w b off p.L) (hl : s.length ≤ 4000000) (mx : Int) (hmax : w.cell? ⟨0, 0, none⟩ = some (.int .i64 mx)) (hT : Lib.Utf8Tabs 1 2 w)
    (ht : Told p x y z s S7 C8 i j k F ok)
    (hWr : ∀ b' off' cap' w1, Brd w1 b' off' p.L → Calls Tryz.prog 5 #[chessV b' off' cap' p, .agg #[.int .i64 x, .int .i64 y, .int .i64 z]] w1 (RetB (.tuple #[strV S7, .int .i64 C8]) w1)) :
    Calls Tryz.prog 3 #[chessV b off cap p, .agg #[.int .i64 x, .int .i64 y, .int .i64 z], strV s] w (RetB (.bool true) w) := by
  have hlt := hbr.lt
  have h0lt : 0 < w.heap.size := by omega
  have hin : ∀ w1, Below w.heap.size w w1 → Brd w1 b off p.L := fun w1 hb => hbr.below hb hlt
  have hC : ∀ w1, Below w.heap.size w w1 → Calls Tryz.prog 6 #[chessV b off cap p] w1 fun e w' => ∃ b' off' cap', e = .returned (chessV b' off' cap' p) ∧ Brd w' b' off' p.L ∧ Below w1.heap.size w1 w' := fun w1 hb => by
    refine (chessOf_in (a := some ⟨b, off, none⟩) (Z := p.L) (.inr ⟨b, off, rfl, (hin w1 hb).lt, (hin w1 hb).cell⟩) (by decide) (fun _ _ _ => rfl)).mono ?_
    rintro e w' ⟨a', cap', rfl, hrow, hb1⟩
    obtain ⟨b', off', rfl, hB⟩ := hrow rfl
    exact ⟨b', off', cap', rfl, ⟨hB.lt, hB.cell, hm.ok.bd⟩, hb1⟩
  have hQ : ∀ b' off' cap' w1, Below w.heap.size w w1 → Brd w1 b' off' p.L → Calls Tryz.prog 7 #[chessV b' off' cap' p, strV s] w1 (RetB (.tuple #[.agg #[.int .i64 i, .int .i64 j, .int .i64 k], .int .i64 F]) w1) := fun b' off' cap' w1 hb hB => by
    rw [← ht.pw]
    exact parseQ_yes s hm hmay hB hl mx ((hb.cell (p := ⟨0, 0, none⟩) h0lt).trans hmax) (Utf8Tabs_below hT hb)
  have hM : ∀ w1, Below w.heap.size w w1 → Calls Tryz.prog 8 #[chessV b off cap p] w1 (RetB (.bool true) w1) := fun w1 hb => by
    rw [← hmay]
    exact chessMay_any _ _ _ p w1 (by omega) (fun _ => ⟨b, off, rfl, ⟨(hin w1 hb).lt, (hin w1 hb).cell⟩⟩) hm.out
  have hp := posM_of hm
  have hPW : ∀ w1, Below w.heap.size w w1 → Calls Tryz.prog 9 #[chessV b off cap p, strV s] w1 (RetB (.tuple #[.agg #[.int .i64 i, .int .i64 j, .int .i64 k], .bool ok]) w1) := fun w1 hb => by
    rw [← ht.pv]
    exact parseWord_any b off cap p s w1 (hin w1 hb) hp hl
  have hMA : ∀ w1, Below w.heap.size w w1 → Calls Tryz.prog 11 #[chessV b off cap p] w1 fun e w' => ∃ v, e = .returned v ∧ MvSl w' v (movesR p) ∧ Below w1.heap.size w1 w' := fun w1 hb => by
    refine (movesAll_any b off cap p w1 (hin w1 hb) hp.ok hp.king).mono ?_
    rintro e w' ⟨v, rfl, hown, hb1⟩
    exact ⟨v, rfl, MvSl.of_row hown, hb1⟩
  have hMI : ∀ v w1, MvSl w1 v (movesR p) → Calls Tryz.prog 10 #[v, .agg #[.int .i64 x, .int .i64 y, .int .i64 z]] w1 (RetB (.int .i64 (mvIdx (movesR p) x y z)) w1) := fun v w1 h => moveAt_sl v (movesR p) x y z w1 h (Nat.le_trans (movesUpto_le p 64) (by decide))
  have hPl : ∀ m, m ∈ movesR p → ∀ w1, Below w.heap.size w w1 → Calls Tryz.prog 12 #[chessV b off cap p, mvV m] w1 (RetB (strV (plainL p m)) w1) := fun m h w1 hb => by
    obtain ⟨h1, h2, h3, h4⟩ := hp.mem m h
    exact plainWord_any b off cap p m w1 (hin w1 hb) hp.ok h1 h2 h3 h4 hp.king (fun q h => ⟨(hp.mem q h).1, (hp.mem q h).2.1⟩)
  have hEn : ∀ m, m ∈ movesR p → ∀ w1, Below w.heap.size w w1 → Calls Tryz.prog 13 #[chessV b off cap p, mvV m] w1 (RetB (strV (endL p m)) w1) := fun m h w1 hb => by
    obtain ⟨h1, h2, h3, h4⟩ := hp.mem m h
    exact wordEnd_any b off cap p m w1 (hin w1 hb) hp.ok h1 h2 h3 h4 (hp.nextOk m h) (hp.nextKing m h) (hp.nextGo m h)
  unfold chessV strV at *
  have HT := Lib.hid ht
  have HC := Lib.hid hC
  have HW := Lib.hid hWr
  have HQ := Lib.hid hQ
  have HM := Lib.hid hM
  have HPW := Lib.hid hPW
  have HMA := Lib.hid hMA
  have HMI := Lib.hid hMI
  have HPl := Lib.hid hPl
  have HEn := Lib.hid hEn
  clear hC hWr hQ hM hPW hMA hMI hPl hEn hin hmax hT hm hmay hbr hp ht
  go_enter Tryz.func3, Tryz.ntmps3
  go_upto_region 1 with fail
  generalize hW0 : World.alloc _ _ = W0
  have hS : LW w W0 (some ⟨b, off, none⟩) 64 cap p x y z := by
    rw [← hW0]; exact ⟨(Blk.new w _ _).alloc _, Blk.new' (by simp) _ _, ((Below.refl _ _).alloc (Nat.le_refl _) _).alloc (by simp) _⟩
  clear hW0
  go_cut [7, 8] from 14 to 20 (fun s7 s8 wx => s7 = .string ⟨S7.toArray⟩ ∧ s8 = .int .i64 C8 ∧ LW w wx (some ⟨b, off, none⟩) 64 cap p x y z)
  case first =>
    obtain ⟨p0, p1, p2, p3, p4, p5, m0, m1, m2⟩ := hS.cells
    have hbd : Below W0.heap.size W0 W0.drew := (Below.refl _ W0).drew
    have hbw := (hS.trans hbd).below
    go_region_held3 (fun w' => w'.cell? ⟨w.heap.size, 0, none⟩ = some (.slice (some ⟨b, off, none⟩) 64 cap) ∧ w'.cell? ⟨w.heap.size, 1, none⟩ = some (.int .i64 p.turn) ∧ w'.cell? ⟨w.heap.size, 2, none⟩ = some (.int .i64 p.castle) ∧ w'.cell? ⟨w.heap.size, 3, none⟩ = some (.int .i64 p.ep) ∧ w'.cell? ⟨w.heap.size, 4, none⟩ = some (.int .i64 p.half) ∧ w'.cell? ⟨w.heap.size, 5, none⟩ = some (.int .i64 p.full) ∧ w'.cell? ⟨w.heap.size + 1, 0, none⟩ = some (.int .i64 x) ∧ w'.cell? ⟨w.heap.size + 1, 1, none⟩ = some (.int .i64 y) ∧ w'.cell? ⟨w.heap.size + 1, 2, none⟩ = some (.int .i64 z))
      (first | exact (hS.trans ((hbd.trans hb1).trans (hb2.mono hb1.size))).cells | exact (hS.trans (hbd.trans hb1)).cells | exact (hS.trans hbd).cells | go_keep)
      (first
        | (go_at_call 6; refine (HC.out _ hbw).mono ?_; rintro e w1 ⟨b', off', cap', rfl, hrow, hb1⟩)
        | (go_at_call 5; refine (HW.out _ _ _ _ hrow).mono ?_; rintro e w2 ⟨rfl, hb2⟩))
    go_wp2
    go_meet
    exact ⟨rfl, rfl, hS.trans ((hbd.trans hb1).trans (hb2.mono hb1.size))⟩
  case rest =>
  clear hS
  obtain ⟨rfl, rfl, hS⟩ := hcut
  obtain ⟨p0, p1, p2, p3, p4, p5, m0, m1, m2⟩ := hS.cells
  have hbw := hS.below
  go_upto_region 4 with (first
        | (go_at_call 6; refine (HC.out _ hbw).mono ?_; rintro e w1 ⟨b', off', cap', rfl, hrow, hb1⟩; have hbw1 := hbw.trans (hb1.mono hbw.size))
        | (go_at_call 7; refine (HQ.out _ _ _ _ hbw1 hrow).mono ?_; rintro e w2 ⟨rfl, hb2⟩))
  have hb := hb1.trans (hb2.mono hb1.size)
  have h2 := hS.trans hb
  clear hS p0 p1 p2 p3 p4 p5 m0 m1 m2 hbw hbw1 hb1 hb2 hrow hb
  generalize hW1 : World.alloc (World.alloc w2 _) _ = W1
  have hS : LW w W1 (some ⟨b, off, none⟩) 64 cap p x y z := by rw [← hW1]; exact h2.trans (((Below.refl _ _).alloc (Nat.le_refl _) _).alloc (by simp) _)
  have hX : Blk W1 w2.heap.size #[.int .i64 i, .int .i64 j, .int .i64 k] := by rw [← hW1]; exact (Blk.new _ _ _).alloc _
  have hZ : Blk W1 (w2.heap.size + 1) #[.int .i64 0, .int .i64 0, .int .i64 0] := by rw [← hW1]; exact Blk.new' (by simp) _ _
  clear hW1 h2
  have hbw := hS.below
  obtain ⟨p0, p1, p2, p3, p4, p5, -, -, -⟩ := hS.cells
  go_upto_region 6 with (go_at_call 8; refine (HM.out _ hbw).mono ?_; rintro e w3 ⟨rfl, hb3⟩)
  have hS := hS.trans hb3
  have hX := hX.below hb3 hX.lt
  have hZ := hZ.below hb3 hZ.lt
  clear p0 p1 p2 p3 p4 p5 hb3 hbw
  obtain ⟨p0, p1, p2, p3, p4, p5, -, -, -⟩ := hS.cells
  have hbw := hS.below
  go_upto_region 7 with (go_at_call 9; refine (HPW.out _ hbw).mono ?_; rintro e w4 ⟨rfl, hb4⟩)
  have hS := hS.trans hb4
  have hX := hX.below hb4 hX.lt
  have hZ := hZ.below hb4 hZ.lt
  clear p0 p1 p2 p3 p4 p5 hb4 hbw
  generalize hW5 : World.alloc w4 _ = W5
  have hb5 : Below w4.heap.size w4 W5 := by rw [← hW5]; exact (Below.refl _ _).alloc (Nat.le_refl _) _
  have hY : Blk W5 w4.heap.size #[.int .i64 i, .int .i64 j, .int .i64 k] := by rw [← hW5]; exact Blk.new _ _ _
  have hS := hS.trans hb5
  have hX := hX.below hb5 hX.lt
  have hZ := hZ.below hb5 hZ.lt
  clear hW5 hb5
  go_cut [74] from 52 to 73 (fun s74 wx => s74 = .bool false ∧ wx = W5)
  case first =>
    have x0 := hX.cell (o := 0) rfl
    have x1 := hX.cell (o := 1) rfl
    have x2 := hX.cell (o := 2) rfl
    have y0 := hY.cell (o := 0) rfl
    have y1 := hY.cell (o := 1) rfl
    have y2 := hY.cell (o := 2) rfl
    have z0 := hZ.cell (o := 0) rfl
    have z1 := hZ.cell (o := 1) rfl
    have z2 := hZ.cell (o := 2) rfl
    rcases HT.out.both with ⟨rfl, rfl⟩ | ⟨rfl, rfl, rfl, rfl, rfl⟩
    · go_wp2
      go_meet
      exact ⟨rfl, rfl⟩
    · go_wp2
      go_meet
      exact ⟨rfl, rfl⟩
  case rest =>
  obtain ⟨rfl, rfl⟩ := hcut
  clear hX hY hZ
  go_upto_region 9 with fail
  go_cut [79] from 75 to 78 (fun s79 wx => s79 = .bool (decide (mvIdx (movesR p) x y z < 0)) ∧ LW w wx (some ⟨b, off, none⟩) 64 cap p x y z)
  case first =>
    obtain ⟨p0, p1, p2, p3, p4, p5, m0, m1, m2⟩ := hS.cells
    have hbd : Below wc.heap.size wc wc.drew := (Below.refl _ wc).drew
    have hbw := (hS.trans hbd).below
    go_region_held3 (fun w' => w'.cell? ⟨w.heap.size, 0, none⟩ = some (.slice (some ⟨b, off, none⟩) 64 cap) ∧ w'.cell? ⟨w.heap.size, 1, none⟩ = some (.int .i64 p.turn) ∧ w'.cell? ⟨w.heap.size, 2, none⟩ = some (.int .i64 p.castle) ∧ w'.cell? ⟨w.heap.size, 3, none⟩ = some (.int .i64 p.ep) ∧ w'.cell? ⟨w.heap.size, 4, none⟩ = some (.int .i64 p.half) ∧ w'.cell? ⟨w.heap.size, 5, none⟩ = some (.int .i64 p.full) ∧ w'.cell? ⟨w.heap.size + 1, 0, none⟩ = some (.int .i64 x) ∧ w'.cell? ⟨w.heap.size + 1, 1, none⟩ = some (.int .i64 y) ∧ w'.cell? ⟨w.heap.size + 1, 2, none⟩ = some (.int .i64 z))
      (first | exact (hS.trans ((hbd.trans hb1).trans (hb2.mono hb1.size))).cells | exact (hS.trans (hbd.trans hb1)).cells | exact (hS.trans hbd).cells | go_keep)
      (first
        | (go_at_call 11; refine (HMA.out _ hbw).mono ?_; rintro e w1 ⟨v, rfl, hrow, hb1⟩)
        | (go_at_call 10; refine (HMI.out _ _ hrow).mono ?_; rintro e w2 ⟨rfl, hb2⟩))
    go_wp2
    go_meet
    exact ⟨rfl, hS.trans ((hbd.trans hb1).trans (hb2.mono hb1.size))⟩
  case rest =>
  clear hS
  obtain ⟨rfl, hS⟩ := hcut
  rcases HT.out.fin with ⟨hneg, rfl, rfl⟩ | ⟨hpos, rfl, m, hmem, rfl, rfl, rfl, rfl⟩
  · rw [decide_eq_true hneg]
    go_wp2
    go_ret
    exact ⟨rfl, hS.below⟩
  · rw [decide_eq_false hpos]
    have hpl := plainL_le p m
    have hel := endL_le1 p m
    have hP := HPl.out m hmem
    have hE := HEn.out m hmem
    clear HT HC HW HQ HM HPW HMA HMI HPl HEn hmem hpos
    unfold mvV at hP hE
    have HP := Lib.hid hP
    have HE := Lib.hid hE
    clear hP hE
    generalize plainL p m = pl at *
    generalize endL p m = el at *
    go_upto_region 11 with fail
    obtain ⟨p0, p1, p2, p3, p4, p5, m0, m1, m2⟩ := hS.cells
    have hbd : Below wc.heap.size wc wc.drew := (Below.refl _ wc).drew
    have hbw := (hS.trans hbd).below
    have hsum : ¬ 9223372036854775807 < pl.length + el.length := by omega
    go_region_held3 (fun w' => w'.cell? ⟨w.heap.size, 0, none⟩ = some (.slice (some ⟨b, off, none⟩) 64 cap) ∧ w'.cell? ⟨w.heap.size, 1, none⟩ = some (.int .i64 p.turn) ∧ w'.cell? ⟨w.heap.size, 2, none⟩ = some (.int .i64 p.castle) ∧ w'.cell? ⟨w.heap.size, 3, none⟩ = some (.int .i64 p.ep) ∧ w'.cell? ⟨w.heap.size, 4, none⟩ = some (.int .i64 p.half) ∧ w'.cell? ⟨w.heap.size, 5, none⟩ = some (.int .i64 p.full) ∧ w'.cell? ⟨w.heap.size + 1, 0, none⟩ = some (.int .i64 m.fr) ∧ w'.cell? ⟨w.heap.size + 1, 1, none⟩ = some (.int .i64 m.tg) ∧ w'.cell? ⟨w.heap.size + 1, 2, none⟩ = some (.int .i64 m.into))
      (first | exact (hS.trans ((hbd.trans hb1).trans (hb2.mono hb1.size))).cells | exact (hS.trans (hbd.trans hb1)).cells | exact (hS.trans hbd).cells | go_keep)
      (first
        | (go_at_call 12; refine (HP.out _ hbw).mono ?_; rintro e w1 ⟨rfl, hb1⟩; have hbw1 := hbw.trans (hb1.mono hbw.size))
        | (go_at_call 13; refine (HE.out _ hbw1).mono ?_; rintro e w2 ⟨rfl, hb2⟩))
    rw [bytes_app]
    have hself : (pl ++ el == (ByteArray.mk (pl ++ el).toArray).toList) = true := by rw [Lib.toList_data]; simp
    rw [hself]
    go_wp2
    go_ret
    exact ⟨rfl, (hS.trans ((hbd.trans hb1).trans (hb2.mono hb1.size))).below⟩

end Go.Proofs.YthffhhbbhjcdeaaGreatDoor
namespace Go.Proofs.YthffhhbbhjcdeaaGreatDoor
open Go.RowKit
set_option maxRecDepth 100000

theorem mv_eq {a b : Mv} (h1 : (a.fr : Int) = b.fr) (h2 : (a.tg : Int) = b.tg) (h3 : a.into = b.into) : a = b := by
  obtain ⟨a1, a2, a3⟩ := a
  obtain ⟨b1, b2, b3⟩ := b
  simp only at h1 h2 h3
  have e1 : a1 = b1 := by omega
  have e2 : a2 = b2 := by omega
  subst e1 e2 h3
  rfl

theorem law_all {a : Option Addr} {n cap : Nat} {Z : Nat → Int} {p : Pos} (x y z : Int) (s : List UInt8) {w : World} (hin : BoardIn w a n Z) (hn : n ≤ 1048576) (hL : n = 64 → ∀ i, i < 64 → p.L i = Z i) (hbd : ∀ i, 64 ≤ i → p.L i = 0) (hwf : ∀ i, -9223372036854775808 ≤ p.L i ∧ p.L i ≤ 9223372036854775807) (hl : s.length ≤ 4000000) (mx : Int) (hmax : w.cell? ⟨0, 0, none⟩ = some (.int .i64 mx)) (hT : Lib.Utf8Tabs 1 2 w) :
    Calls Tryz.prog 3 #[.agg #[.slice a n cap, .int .i64 p.turn, .int .i64 p.castle, .int .i64 p.ep, .int .i64 p.half, .int .i64 p.full], .agg #[.int .i64 x, .int .i64 y, .int .i64 z], strV s] w (RetB (.bool true) w) := by
  cases hmay : mayB n p with
  | false => exact law_no x y z s hin hn hL hbd hwf hmay
  | true =>
    have h64 : n = 64 := by
      have h := hmay
      simp only [mayB, mayHead, Bool.and_eq_true, beq_iff_eq, decide_eq_true_eq] at h
      omega
    subst h64
    have hm := mayP_of hmay hbd
    obtain ⟨b, off, rfl, hB⟩ := hin.row rfl (hL rfl)
    have hbr : Brd w b off p.L := ⟨hB.lt, hB.cell, hm.ok.bd⟩
    have hpe : progParse p s = parseL p s := parse_eq hm s
    have hpar : ∃ i j k F ok, parseW (progParse p s) = .tuple #[.agg #[.int .i64 i, .int .i64 j, .int .i64 k], .int .i64 F] ∧ parseV (parseL p s) = .tuple #[.agg #[.int .i64 i, .int .i64 j, .int .i64 k], .bool ok] ∧ ((ok = true ∧ F = 0) ∨ (ok = false ∧ F = 1 ∧ i = 0 ∧ j = 0 ∧ k = 0)) := by
      rw [← hpe]
      cases progParse p s with
      | none => exact ⟨0, 0, 0, 1, false, rfl, rfl, .inr ⟨rfl, rfl, rfl, rfl, rfl⟩⟩
      | some m => exact ⟨m.fr, m.tg, m.into, 0, true, rfl, rfl, .inl ⟨rfl, rfl⟩⟩
    obtain ⟨i, j, k, F, ok, hpw, hpv, hboth⟩ := hpar
    have hidx := hasMv_idx (movesR p) x y z
    cases hh : hasMv (movesR p) x y z with
    | false =>
      rw [hh] at hidx
      have hneg : mvIdx (movesR p) x y z < 0 := by
        have := congrArg (!·) hidx
        simpa using this
      refine law_yes hm hmay hbr hl mx hmax hT (S7 := []) (C8 := 8) ⟨hpw, hpv, hboth, .inl ⟨hneg, rfl, rfl⟩⟩ (fun b' off' cap' w1 hB' => ?_)
      refine (writeP_yes x y z hm hmay hB').mono ?_
      rintro e w' ⟨ho, hb⟩
      unfold WrOut at ho
      rw [if_neg (by rw [hh]; decide)] at ho
      exact ⟨ho, hb⟩
    | true =>
      rw [hh] at hidx
      have hpos : ¬ mvIdx (movesR p) x y z < 0 := by
        have := congrArg (!·) hidx
        simpa using this
      obtain ⟨m, hmem, hx, hy, hz⟩ := hasMv_yes hh
      refine law_yes hm hmay hbr hl mx hmax hT (S7 := plainL p m ++ endL p m) (C8 := 0) ⟨hpw, hpv, hboth, .inr ⟨hpos, rfl, m, hmem, hx, hy, hz, rfl⟩⟩ (fun b' off' cap' w1 hB' => ?_)
      refine (writeP_yes x y z hm hmay hB').mono ?_
      rintro e w' ⟨ho, hb⟩
      unfold WrOut at ho
      rw [if_pos hh] at ho
      obtain ⟨m', _, hx', hy', hz', rfl⟩ := ho
      have : m' = m := mv_eq (hx'.trans hx.symm) (hy'.trans hy.symm) (hz'.trans hz.symm)
      subst this
      exact ⟨rfl, hb⟩

end Go.Proofs.YthffhhbbhjcdeaaGreatDoor
