/- WALKS: Tell and Game where they refuse at once: a position that may not be, too many moves, too long a text. WALKS: the law NotationGames answers true, whatever came in. The law NotationGames answers true, whatever came in: its cases joined. -/
import Derived.Test.YthffhhbbhjcdeaaGreatDoorN3
import Derived.Test.YthffhhbbhjcdeaaGreatDoorD1
import Derived.Test.YthffhhbbhjcdeaaGreatDoorN12
import Derived.Test.YthffhhbbhjcdeaaGreatDoorE6
set_option linter.unusedVariables false
set_option linter.unusedSimpArgs false
namespace Go.Proofs.YthffhhbbhjcdeaaGreatDoor
open Go.RowKit
set_option maxRecDepth 100000

section
variable (a : Option Addr) (n cap : Nat) (p : Pos) (w : World)

set_option maxHeartbeats 4000000 in
theorem tellP_no (al : Option Addr) (nl cl : Nat) (hn : n ≤ 2000000) (hrow : n = 64 → ∃ b off, a = some ⟨b, off, none⟩ ∧ BrdA w b off p.L) (hbd : ∀ i, 64 ≤ i → p.L i = 0) (hwf : ∀ i, -9223372036854775808 ≤ p.L i ∧ p.L i ≤ 9223372036854775807) (hm : mayB n p = false) :
    Calls Tryz.prog 14 #[.agg #[.slice a n cap, .int .i64 p.turn, .int .i64 p.castle, .int .i64 p.ep, .int .i64 p.half, .int .i64 p.full], .slice al nl cl] w (RetB (.tuple #[strV [], .int .i64 12]) w) := by
  have hN : ∀ w1, Below w.heap.size w w1 → Calls Tryz.prog 34 #[.agg #[.slice a n cap, .int .i64 p.turn, .int .i64 p.castle, .int .i64 p.ep, .int .i64 p.half, .int .i64 p.full]] w1 (RetB (.bool false) w1) :=
    fun w1 hb => hm ▸ mayProg_any a n cap p w1 hn (fun h => by obtain ⟨b, off, e, hB⟩ := hrow h; exact ⟨b, off, e, hB.below hb hB.lt⟩) hbd hwf
  have HN := Lib.hid hN
  clear hN hrow hbd hwf hm hn
  go_enter Tryz.func14, Tryz.ntmps14
  go_upto_region 1 with fail
  generalize hW0 : World.alloc _ _ = W0
  have hP : Blk W0 w.heap.size #[.slice a n cap, .int .i64 p.turn, .int .i64 p.castle, .int .i64 p.ep, .int .i64 p.half, .int .i64 p.full] := by rw [← hW0]; exact Blk.new w _ _
  have hbw : Below w.heap.size w W0 := by rw [← hW0]; exact (Below.refl _ _).alloc (Nat.le_refl _) _
  clear hW0
  have p0 := hP.cell (o := 0) rfl
  have p1 := hP.cell (o := 1) rfl
  have p2 := hP.cell (o := 2) rfl
  have p3 := hP.cell (o := 3) rfl
  have p4 := hP.cell (o := 4) rfl
  have p5 := hP.cell (o := 5) rfl
  go_wp2_with (go_at_call 34; refine (HN.out _ hbw).mono ?_; rintro e w1 ⟨rfl, hb1⟩)
  go_ret2
  exact ⟨rfl, hbw.trans (hb1.mono hbw.size)⟩

set_option maxHeartbeats 4000000 in
theorem gameP_no (s : ByteArray) (hn : n ≤ 2000000) (hrow : n = 64 → ∃ b off, a = some ⟨b, off, none⟩ ∧ BrdA w b off p.L) (hbd : ∀ i, 64 ≤ i → p.L i = 0) (hwf : ∀ i, -9223372036854775808 ≤ p.L i ∧ p.L i ≤ 9223372036854775807) (hm : mayB n p = false) :
    Calls Tryz.prog 16 #[.agg #[.slice a n cap, .int .i64 p.turn, .int .i64 p.castle, .int .i64 p.ep, .int .i64 p.half, .int .i64 p.full], .string s] w (RetB (.tuple #[.slice none 0 0, .int .i64 0, .int .i64 12]) w) := by
  have hN : ∀ w1, Below w.heap.size w w1 → Calls Tryz.prog 34 #[.agg #[.slice a n cap, .int .i64 p.turn, .int .i64 p.castle, .int .i64 p.ep, .int .i64 p.half, .int .i64 p.full]] w1 (RetB (.bool false) w1) :=
    fun w1 hb => hm ▸ mayProg_any a n cap p w1 hn (fun h => by obtain ⟨b, off, e, hB⟩ := hrow h; exact ⟨b, off, e, hB.below hb hB.lt⟩) hbd hwf
  have HN := Lib.hid hN
  clear hN hrow hbd hwf hm hn
  go_enter Tryz.func16, Tryz.ntmps16
  go_upto_region 1 with fail
  generalize hW0 : World.alloc _ _ = W0
  have hP : Blk W0 w.heap.size #[.slice a n cap, .int .i64 p.turn, .int .i64 p.castle, .int .i64 p.ep, .int .i64 p.half, .int .i64 p.full] := by rw [← hW0]; exact Blk.new w _ _
  have hbw : Below w.heap.size w W0 := by rw [← hW0]; exact (Below.refl _ _).alloc (Nat.le_refl _) _
  clear hW0
  have p0 := hP.cell (o := 0) rfl
  have p1 := hP.cell (o := 1) rfl
  have p2 := hP.cell (o := 2) rfl
  have p3 := hP.cell (o := 3) rfl
  have p4 := hP.cell (o := 4) rfl
  have p5 := hP.cell (o := 5) rfl
  go_wp2_with (go_at_call 34; refine (HN.out _ hbw).mono ?_; rintro e w1 ⟨rfl, hb1⟩)
  go_ret3
  exact ⟨rfl, hbw.trans (hb1.mono hbw.size)⟩
end

section
variable {b off cap : Nat} {p : Pos} {w : World}
set_option maxHeartbeats 4000000 in
theorem tellP_many (al : Option Addr) (nl cl : Nat) (hm : MayP p) (hbr : Brd w b off p.L) (hl : 200 < nl) :
    Calls Tryz.prog 14 #[chessV b off cap p, .slice al nl cl] w (RetB (.tuple #[strV [], .int .i64 11]) w) := by
  have hbl := hbr.lt
  have hN : ∀ w1, Below w.heap.size w w1 → Calls Tryz.prog 34 #[chessV b off cap p] w1 (RetB (.bool true) w1) := fun w1 hb => by
    have h := mayProg_any (some ⟨b, off, none⟩) 64 cap p w1 (by omega) (fun _ => ⟨b, off, rfl, ⟨(hbr.below hb hbl).lt, (hbr.below hb hbl).cell⟩⟩) hm.out (fun i => by have := hm.ok.bd i; omega)
    rwa [mayB_of hm] at h
  unfold chessV at hN ⊢
  have HN := Lib.hid hN
  clear hN hm hbr
  have hlz : (200 : Int) < nl := by omega
  go_enter Tryz.func14, Tryz.ntmps14
  go_upto_region 1 with fail
  generalize hW0 : World.alloc _ _ = W0
  have hP : Blk W0 w.heap.size #[.slice (some ⟨b, off, none⟩) 64 cap, .int .i64 p.turn, .int .i64 p.castle, .int .i64 p.ep, .int .i64 p.half, .int .i64 p.full] := by rw [← hW0]; exact Blk.new w _ _
  have hbw : Below w.heap.size w W0 := by rw [← hW0]; exact (Below.refl _ _).alloc (Nat.le_refl _) _
  clear hW0
  have p0 := hP.cell (o := 0) rfl
  have p1 := hP.cell (o := 1) rfl
  have p2 := hP.cell (o := 2) rfl
  have p3 := hP.cell (o := 3) rfl
  have p4 := hP.cell (o := 4) rfl
  have p5 := hP.cell (o := 5) rfl
  go_wp2_with (go_at_call 34; refine (HN.out _ hbw).mono ?_; rintro e w1 ⟨rfl, hb1⟩)
  go_ret2
  exact ⟨rfl, hbw.trans (hb1.mono hbw.size)⟩

set_option maxHeartbeats 4000000 in
theorem gameP_big (s : List UInt8) (hm : MayP p) (hbr : Brd w b off p.L) (hl : 4000 < s.length) :
    Calls Tryz.prog 16 #[chessV b off cap p, .string ⟨s.toArray⟩] w (RetB (.tuple #[.slice none 0 0, .int .i64 0, .int .i64 2]) w) := by
  have hbl := hbr.lt
  have hN : ∀ w1, Below w.heap.size w w1 → Calls Tryz.prog 34 #[chessV b off cap p] w1 (RetB (.bool true) w1) := fun w1 hb => by
    have h := mayProg_any (some ⟨b, off, none⟩) 64 cap p w1 (by omega) (fun _ => ⟨b, off, rfl, ⟨(hbr.below hb hbl).lt, (hbr.below hb hbl).cell⟩⟩) hm.out (fun i => by have := hm.ok.bd i; omega)
    rwa [mayB_of hm] at h
  unfold chessV at hN ⊢
  have HN := Lib.hid hN
  clear hN hm hbr
  have hlz : (4000 : Int) < s.length := by omega
  go_enter Tryz.func16, Tryz.ntmps16
  go_upto_region 1 with fail
  generalize hW0 : World.alloc _ _ = W0
  have hP : Blk W0 w.heap.size #[.slice (some ⟨b, off, none⟩) 64 cap, .int .i64 p.turn, .int .i64 p.castle, .int .i64 p.ep, .int .i64 p.half, .int .i64 p.full] := by rw [← hW0]; exact Blk.new w _ _
  have hbw : Below w.heap.size w W0 := by rw [← hW0]; exact (Below.refl _ _).alloc (Nat.le_refl _) _
  clear hW0
  have p0 := hP.cell (o := 0) rfl
  have p1 := hP.cell (o := 1) rfl
  have p2 := hP.cell (o := 2) rfl
  have p3 := hP.cell (o := 3) rfl
  have p4 := hP.cell (o := 4) rfl
  have p5 := hP.cell (o := 5) rfl
  go_wp2_with (go_at_call 34; refine (HN.out _ hbw).mono ?_; rintro e w1 ⟨rfl, hb1⟩)
  go_ret3
  exact ⟨rfl, hbw.trans (hb1.mono hbw.size)⟩
end

end Go.Proofs.YthffhhbbhjcdeaaGreatDoor
namespace Go.Proofs.YthffhhbbhjcdeaaGreatDoor
open Go.RowKit
set_option maxRecDepth 100000

structure LG (w wx : World) (a : Option Addr) (n cap : Nat) (p : Pos) : Prop where
  kP : Blk wx w.heap.size #[.slice a n cap, .int .i64 p.turn, .int .i64 p.castle, .int .i64 p.ep, .int .i64 p.half, .int .i64 p.full]
  below : Below w.heap.size w wx
theorem LG.trans {w wx w1 : World} {a : Option Addr} {n cap : Nat} {p : Pos} (h : LG w wx a n cap p) (hb : Below wx.heap.size wx w1) : LG w w1 a n cap p :=
  ⟨h.kP.below hb h.kP.lt, h.below.trans (hb.mono h.below.size)⟩
theorem LG.cells {w wx : World} {a : Option Addr} {n cap : Nat} {p : Pos} (h : LG w wx a n cap p) :
    wx.cell? ⟨w.heap.size, 0, none⟩ = some (.slice a n cap) ∧ wx.cell? ⟨w.heap.size, 1, none⟩ = some (.int .i64 p.turn) ∧ wx.cell? ⟨w.heap.size, 2, none⟩ = some (.int .i64 p.castle) ∧ wx.cell? ⟨w.heap.size, 3, none⟩ = some (.int .i64 p.ep) ∧ wx.cell? ⟨w.heap.size, 4, none⟩ = some (.int .i64 p.half) ∧ wx.cell? ⟨w.heap.size, 5, none⟩ = some (.int .i64 p.full) :=
  ⟨h.kP.cell rfl, h.kP.cell rfl, h.kP.cell rfl, h.kP.cell rfl, h.kP.cell rfl, h.kP.cell rfl⟩

/-- Moves that came in. -/
def TrIn (w : World) (al : Option Addr) (l : List (Int × Int × Int)) : Prop := l.length = 0 ∨ ∃ b off, al = some ⟨b, off, none⟩ ∧ TrRow w b off l
theorem TrIn.below {w w1 : World} {al : Option Addr} {l : List (Int × Int × Int)} (h : TrIn w al l) (hb : Below w.heap.size w w1) : TrIn w1 al l := by
  rcases h with h | ⟨b, off, e, hr⟩
  · exact .inl h
  · exact .inr ⟨b, off, e, hr.below hb hr.lt⟩
theorem listTr_any {al : Option Addr} {cl : Nat} {l : List (Int × Int × Int)} {w : World} (hl : l.length ≤ 2000000) (hr : TrIn w al l) :
    Calls Tryz.prog 15 #[.slice al l.length cl] w fun e w' => ∃ a' c', e = .returned (.slice a' l.length c') ∧ TrIn w' a' l ∧ Below w.heap.size w w' := by
  refine (list_any al cl l w hl hr).mono ?_
  rintro e w' ⟨v, rfl, hown, hb⟩
  obtain ⟨a', c', rfl, h⟩ := owns_tr hown
  refine ⟨a', c', rfl, ?_, hb⟩
  rcases h with h | ⟨b, e, hr⟩
  · exact .inl h
  · exact .inr ⟨b, 0, e, hr⟩

set_option maxHeartbeats 4000000 in
theorem games_no {a : Option Addr} {n cap : Nat} {Z : Nat → Int} {p : Pos} {al : Option Addr} {cl : Nat} {l : List (Int × Int × Int)} (s : ByteArray) {w : World} (hin : BoardIn w a n Z) (hn : n ≤ 1048576) (hL : n = 64 → ∀ i, i < 64 → p.L i = Z i) (hbd : ∀ i, 64 ≤ i → p.L i = 0) (hwf : ∀ i, -9223372036854775808 ≤ p.L i ∧ p.L i ≤ 9223372036854775807) (hm : mayB n p = false)
    (hl : l.length ≤ 2000000) (hr : TrIn w al l) :
    Calls Tryz.prog 4 #[.agg #[.slice a n cap, .int .i64 p.turn, .int .i64 p.castle, .int .i64 p.ep, .int .i64 p.half, .int .i64 p.full], .slice al l.length cl, .string s] w (RetB (.bool true) w) := by
  have hC : ∀ w1, Below w.heap.size w w1 → _ := fun w1 hb => chessOf_in (cap := cap) (hin.below hb) hn hL
  have hLi : ∀ w1, Below w.heap.size w w1 → _ := fun w1 hb => listTr_any (cl := cl) hl (hr.below hb)
  have hT := fun a' cap' w1 al nl cl hrow => tellP_no a' n cap' p w1 al nl cl (by omega) hrow hbd hwf hm
  have hG := fun a' cap' w1 hrow => gameP_no a' n cap' p w1 s (by omega) hrow hbd hwf hm
  have hM : ∀ w1, Below w.heap.size w w1 → _ := fun w1 hb => chessMay_any a n cap p w1 (by omega) (fun h => (hin.below hb).row h (hL h)) hbd
  simp only [hm] at hM
  unfold strV at hT
  have HC := Lib.hid hC
  have HLi := Lib.hid hLi
  have HT := Lib.hid hT
  have HG := Lib.hid hG
  have HM := Lib.hid hM
  have HBB : Hid (∀ (a' : Option Addr) (w1 w2 : World), (n = 64 → ∃ b off, a' = some ⟨b, off, none⟩ ∧ BrdA w1 b off p.L) → Below w1.heap.size w1 w2 → (n = 64 → ∃ b off, a' = some ⟨b, off, none⟩ ∧ BrdA w2 b off p.L)) :=
    Lib.hid fun a' w1 w2 h hb hn => by obtain ⟨b, off, e, hB⟩ := h hn; exact ⟨b, off, e, hB.below hb hB.lt⟩
  clear hC hLi hT hG hM hin hL hbd hwf hm hn hr
  go_enter Tryz.func4, Tryz.ntmps4
  go_upto_region 1 with fail
  generalize hW0 : World.alloc _ _ = W0
  have hS : LG w W0 a n cap p := by
    rw [← hW0]; exact ⟨Blk.new w _ _, (Below.refl _ _).alloc (Nat.le_refl _) _⟩
  clear hW0
  obtain ⟨p0, p1, p2, p3, p4, p5⟩ := hS.cells
  have hbw := hS.below
  go_upto_region 2 with (first
    | (go_at_call 6; refine (HC.out _ hbw).mono ?_; rintro e w1 ⟨a', cap', rfl, hrow, hb1⟩)
    | (go_at_call 15; refine (HLi.out _ (hbw.trans (hb1.mono hbw.size))).mono ?_; rintro e w2 ⟨al2, cl2, rfl, htr, hb2⟩)
    | (go_at_call 14; refine (HT.out _ _ _ _ _ _ (HBB.out _ _ _ hrow hb2)).mono ?_; rintro e w3 ⟨rfl, hb3⟩))
  have hS2 := hS.trans ((hb1.trans (hb2.mono hb1.size)).trans (hb3.mono (hb1.trans (hb2.mono hb1.size)).size))
  clear p0 p1 p2 p3 p4 p5 hbw hS hb1 hb2 hb3 hrow htr
  obtain ⟨p0, p1, p2, p3, p4, p5⟩ := hS2.cells
  have hbw := hS2.below
  go_upto_region 3 with (first
    | (go_at_call 6; refine (HC.out _ hbw).mono ?_; rintro e w4 ⟨a', cap', rfl, hrow, hb4⟩)
    | (go_at_call 16; refine (HG.out _ _ _ hrow).mono ?_; rintro e w5 ⟨rfl, hb5⟩))
  have hS3 := hS2.trans (hb4.trans (hb5.mono hb4.size))
  clear p0 p1 p2 p3 p4 p5 hbw hS2 hb4 hb5 hrow
  obtain ⟨p0, p1, p2, p3, p4, p5⟩ := hS3.cells
  have hbw := hS3.below
  go_wp2_with (go_at_call 8; refine (HM.out _ hbw).mono ?_; rintro e w6 ⟨rfl, hb6⟩)
  go_ret
  exact ⟨rfl, (hS3.trans hb6).below⟩

/-- What the program's two results hold, told once. -/
structure Told4 (p : Pos) (l : List (Int × Int × Int)) (s S7 : List UInt8) (C8 : Int) (G : List Mv) (N10 : Nat) (C11 : Int) : Prop where
  many : (200 < l.length ∧ S7 = [] ∧ C8 = 11) ∨ (l.length ≤ 200 ∧ ∃ S12 ok, tellV (tellS p true [] l) = .tuple #[.string ⟨S12.toArray⟩, .bool ok] ∧ ((ok = true ∧ C8 = 0 ∧ S7 = S12) ∨ (ok = false ∧ C8 = 8 ∧ S7 = [])))
  big : (4000 < s.length ∧ N10 = 0 ∧ C11 = 2 ∧ G = []) ∨ (s.length ≤ 4000 ∧ (gameG p [] 0 (wordsL s)).2.1 = N10 ∧ (gameG p [] 0 (wordsL s)).2.2 = C11 ∧ (gameG p [] 0 (wordsL s)).1 = G)

set_option maxHeartbeats 8000000 in
theorem games_walk {b off cap : Nat} {p : Pos} {al : Option Addr} {cl : Nat} {l : List (Int × Int × Int)} {s S7 : List UInt8} {C8 : Int} {G : List Mv} {N10 : Nat} {C11 : Int} {w : World} (hm : MayP p) (hbr : Brd w b off p.L) (hl : l.length ≤ 2000000) (hr : TrIn w al l)
    (hs : s.length ≤ 2000000) (hGl : G.length ≤ 2000000) (hto : Told4 p l s S7 C8 G N10 C11)
    (hTe : ∀ b' off' cap' al' cl' w1, Below w.heap.size w w1 → Brd w1 b' off' p.L → TrIn w1 al' l → Calls Tryz.prog 14 #[chessV b' off' cap' p, .slice al' l.length cl'] w1 (RetB (.tuple #[strV S7, .int .i64 C8]) w1))
    (hGa : ∀ b' off' cap' w1, Below w.heap.size w w1 → Brd w1 b' off' p.L → Calls Tryz.prog 16 #[chessV b' off' cap' p, .string ⟨s.toArray⟩] w1 fun e w' => ∃ v, e = .returned (.tuple #[v, .int .i64 N10, .int .i64 C11]) ∧ MvSl w' v G ∧ Below w1.heap.size w1 w') :
    Calls Tryz.prog 4 #[chessV b off cap p, .slice al l.length cl, .string ⟨s.toArray⟩] w (RetB (.bool true) w) := by
  have hlt := hbr.lt
  have hin : ∀ w1, Below w.heap.size w w1 → Brd w1 b off p.L := fun w1 hb => hbr.below hb hlt
  have hC : ∀ w1, Below w.heap.size w w1 → Calls Tryz.prog 6 #[chessV b off cap p] w1 fun e w' => ∃ b' off' cap', e = .returned (chessV b' off' cap' p) ∧ Brd w' b' off' p.L ∧ Below w1.heap.size w1 w' := fun w1 hb => by
    refine (chessOf_in (a := some ⟨b, off, none⟩) (Z := p.L) (.inr ⟨b, off, rfl, (hin w1 hb).lt, (hin w1 hb).cell⟩) (by decide) (fun _ _ _ => rfl)).mono ?_
    rintro e w' ⟨a', cap', rfl, hrow, hb1⟩
    obtain ⟨b', off', rfl, hB⟩ := hrow rfl
    exact ⟨b', off', cap', rfl, ⟨hB.lt, hB.cell, hm.ok.bd⟩, hb1⟩
  have hLi : ∀ w1, Below w.heap.size w w1 → _ := fun w1 hb => listTr_any (cl := cl) hl (hr.below hb)
  have hM : ∀ w1, Below w.heap.size w w1 → Calls Tryz.prog 8 #[chessV b off cap p] w1 (RetB (.bool true) w1) := fun w1 hb => by
    have h := chessMay_any (some ⟨b, off, none⟩) 64 cap p w1 (by omega) (fun _ => ⟨b, off, rfl, ⟨(hin w1 hb).lt, (hin w1 hb).cell⟩⟩) hm.out
    rwa [mayB_of hm] at h
  have hTr : l.length ≤ 200 → ∀ w1, Below w.heap.size w w1 → Calls Tryz.prog 17 #[chessV b off cap p, .slice al l.length cl] w1 (RetB (tellV (tellS p true [] l)) w1) := fun h w1 hb => tellR_any b off cap al cl p l w1 hm (hin w1 hb) h (hr.below hb)
  have hGr : s.length ≤ 4000 → ∀ w1, Below w.heap.size w w1 → Calls Tryz.prog 18 #[chessV b off cap p, .string ⟨s.toArray⟩] w1 fun e w' => ∃ v, e = .returned (.tuple #[v, .int .i64 N10, .int .i64 C11]) ∧ MvSl w' v G ∧ Below w1.heap.size w1 w' := fun h w1 hb => by
    rcases hto.big with ⟨hbig, _⟩ | ⟨_, h1, h2, h3⟩
    · omega
    · have hg := gameR_any b off cap p s w1 hm (hin w1 hb) h
      rw [h1, h2, h3] at hg
      exact hg
  unfold chessV strV at *
  have HC := Lib.hid hC
  have HLi := Lib.hid hLi
  have HM := Lib.hid hM
  have HTr := Lib.hid hTr
  have HGr := Lib.hid hGr
  have HTe := Lib.hid hTe
  have HGa := Lib.hid hGa
  have HTo := Lib.hid hto
  clear hC hLi hM hTr hGr hTe hGa hto hin hm hbr hr
  go_enter Tryz.func4, Tryz.ntmps4
  go_upto_region 1 with fail
  generalize hW0 : World.alloc _ _ = W0
  have hS : LG w W0 (some ⟨b, off, none⟩) 64 cap p := by
    rw [← hW0]; exact ⟨Blk.new w _ _, (Below.refl _ _).alloc (Nat.le_refl _) _⟩
  clear hW0
  obtain ⟨p0, p1, p2, p3, p4, p5⟩ := hS.cells
  have hbw := hS.below
  go_upto_region 2 with (first
    | (go_at_call 6; refine (HC.out _ hbw).mono ?_; rintro e w1 ⟨b', off', cap', rfl, hrow, hb1⟩; have hbw1 := hbw.trans (hb1.mono hbw.size))
    | (go_at_call 15; refine (HLi.out _ hbw1).mono ?_; rintro e w2 ⟨al2, cl2, rfl, htr, hb2⟩; have hbw2 := hbw1.trans (hb2.mono hbw1.size))
    | (go_at_call 14; refine (HTe.out _ _ _ _ _ _ hbw2 (hrow.below hb2 hrow.lt) htr).mono ?_; rintro e w3 ⟨rfl, hb3⟩))
  have hS2 := hS.trans ((hb1.trans (hb2.mono hb1.size)).trans (hb3.mono (hb1.trans (hb2.mono hb1.size)).size))
  clear p0 p1 p2 p3 p4 p5 hbw hbw1 hbw2 hS hb1 hb2 hb3 hrow htr
  obtain ⟨p0, p1, p2, p3, p4, p5⟩ := hS2.cells
  have hbw := hS2.below
  go_upto_region 3 with (first
    | (go_at_call 6; refine (HC.out _ hbw).mono ?_; rintro e w4 ⟨b', off', cap', rfl, hrow, hb4⟩; have hbw1 := hbw.trans (hb4.mono hbw.size))
    | (go_at_call 16; refine (HGa.out _ _ _ _ hbw1 hrow).mono ?_; rintro e w5 ⟨v9, rfl, hMS, hb5⟩))
  have hS3 := hS2.trans (hb4.trans (hb5.mono hb4.size))
  clear p0 p1 p2 p3 p4 p5 hbw hbw1 hS2 hb4 hb5 hrow
  obtain ⟨p0, p1, p2, p3, p4, p5⟩ := hS3.cells
  have hbw := hS3.below
  go_upto_region 5 with (go_at_call 8; refine (HM.out _ hbw).mono ?_; rintro e w6 ⟨rfl, hb6⟩)
  have hS4 := hS3.trans hb6
  have hMS := hMS.below hb6
  clear p0 p1 p2 p3 p4 p5 hbw hS3 hb6
  rcases HTo.out.many with ⟨hmany, hS7, hC8⟩ | ⟨hfew, S12, ok, hte, hcase⟩
  · subst hS7 hC8
    have hz1 : (200 : Int) < l.length := by omega
    have hS5 := hS4
    go_upto_region 11 with fail
    rcases HTo.out.big with ⟨hbig, hN, hC, hGe⟩ | ⟨hsm, hN, hC, hGe⟩
    · have hG0 : G.length = 0 := by rw [hGe]; rfl
      have hz : (4000 : Int) < s.length := by omega
      subst hN hC
      obtain ⟨a9, c9, rfl, -⟩ := hMS.form
      rw [hG0]
      clear HTo hGe hMS
      go_wp2
      go_ret
      exact ⟨rfl, hS5.below⟩
    · have hz : ¬ (4000 : Int) < s.length := by omega
      have HGR := Lib.hid (HGr.out hsm)
      have hsame : ∀ v1 v2 w1, MvSl w1 v1 G → MvSl w1 v2 G → Calls Tryz.prog 19 #[v1, v2] w1 (RetB (.bool true) w1) := fun v1 v2 w1 h1 h2 => sameMoves_any v1 v2 G w1 h1 h2 (by omega)
      have HSa := Lib.hid hsame
      have HMS := Lib.hid hMS
      clear HTo hsame hMS hGe hN hC
      obtain ⟨p0, p1, p2, p3, p4, p5⟩ := hS5.cells
      have hbw := hS5.below
      go_wp2_with (first
        | (go_at_call 18; refine (HGR.out _ hbw).mono ?_; rintro e w8 ⟨v14, rfl, hM8, hb8⟩)
        | (go_at_call 19; refine (HSa.out _ _ _ (HMS.out.below hb8) hM8).mono ?_; rintro e w9 ⟨rfl, hb9⟩))
      go_ret
      exact ⟨rfl, (hS5.trans (hb8.trans (hb9.mono hb8.size))).below⟩
  · have hz1 : ¬ (200 : Int) < l.length := by omega
    have hTR := HTr.out hfew
    rw [hte] at hTR
    have HTR := Lib.hid hTR
    clear hTR hte
    obtain ⟨p0, p1, p2, p3, p4, p5⟩ := hS4.cells
    have hbw := hS4.below
    rcases hcase with ⟨rfl, hC8, hS7⟩ | ⟨rfl, hC8, hS7⟩
    · subst hC8 hS7
      go_upto_region 11 with (go_at_call 17; refine (HTR.out _ hbw).mono ?_; rintro e w7 ⟨rfl, hb7⟩)
      have hS5 := hS4.trans hb7
      have hMS := hMS.below hb7
      clear p0 p1 p2 p3 p4 p5 hbw hS4 hb7
      rcases HTo.out.big with ⟨hbig, hN, hC, hGe⟩ | ⟨hsm, hN, hC, hGe⟩
      · have hG0 : G.length = 0 := by rw [hGe]; rfl
        have hz : (4000 : Int) < s.length := by omega
        subst hN hC
        obtain ⟨a9, c9, rfl, -⟩ := hMS.form
        rw [hG0]
        clear HTo hGe hMS
        go_wp2
        go_ret
        exact ⟨rfl, hS5.below⟩
      · have hz : ¬ (4000 : Int) < s.length := by omega
        have HGR := Lib.hid (HGr.out hsm)
        have hsame : ∀ v1 v2 w1, MvSl w1 v1 G → MvSl w1 v2 G → Calls Tryz.prog 19 #[v1, v2] w1 (RetB (.bool true) w1) := fun v1 v2 w1 h1 h2 => sameMoves_any v1 v2 G w1 h1 h2 (by omega)
        have HSa := Lib.hid hsame
        have HMS := Lib.hid hMS
        clear HTo hsame hMS hGe hN hC
        obtain ⟨p0, p1, p2, p3, p4, p5⟩ := hS5.cells
        have hbw := hS5.below
        go_wp2_with (first
          | (go_at_call 18; refine (HGR.out _ hbw).mono ?_; rintro e w8 ⟨v14, rfl, hM8, hb8⟩)
          | (go_at_call 19; refine (HSa.out _ _ _ (HMS.out.below hb8) hM8).mono ?_; rintro e w9 ⟨rfl, hb9⟩))
        go_ret
        exact ⟨rfl, (hS5.trans (hb8.trans (hb9.mono hb8.size))).below⟩
    · subst hC8 hS7
      go_upto_region 11 with (go_at_call 17; refine (HTR.out _ hbw).mono ?_; rintro e w7 ⟨rfl, hb7⟩)
      have hS5 := hS4.trans hb7
      have hMS := hMS.below hb7
      clear p0 p1 p2 p3 p4 p5 hbw hS4 hb7
      rcases HTo.out.big with ⟨hbig, hN, hC, hGe⟩ | ⟨hsm, hN, hC, hGe⟩
      · have hG0 : G.length = 0 := by rw [hGe]; rfl
        have hz : (4000 : Int) < s.length := by omega
        subst hN hC
        obtain ⟨a9, c9, rfl, -⟩ := hMS.form
        rw [hG0]
        clear HTo hGe hMS
        go_wp2
        go_ret
        exact ⟨rfl, hS5.below⟩
      · have hz : ¬ (4000 : Int) < s.length := by omega
        have HGR := Lib.hid (HGr.out hsm)
        have hsame : ∀ v1 v2 w1, MvSl w1 v1 G → MvSl w1 v2 G → Calls Tryz.prog 19 #[v1, v2] w1 (RetB (.bool true) w1) := fun v1 v2 w1 h1 h2 => sameMoves_any v1 v2 G w1 h1 h2 (by omega)
        have HSa := Lib.hid hsame
        have HMS := Lib.hid hMS
        clear HTo hsame hMS hGe hN hC
        obtain ⟨p0, p1, p2, p3, p4, p5⟩ := hS5.cells
        have hbw := hS5.below
        go_wp2_with (first
          | (go_at_call 18; refine (HGR.out _ hbw).mono ?_; rintro e w8 ⟨v14, rfl, hM8, hb8⟩)
          | (go_at_call 19; refine (HSa.out _ _ _ (HMS.out.below hb8) hM8).mono ?_; rintro e w9 ⟨rfl, hb9⟩))
        go_ret
        exact ⟨rfl, (hS5.trans (hb8.trans (hb9.mono hb8.size))).below⟩

end Go.Proofs.YthffhhbbhjcdeaaGreatDoor
namespace Go.Proofs.YthffhhbbhjcdeaaGreatDoor
open Go.RowKit
set_option maxRecDepth 100000

theorem gameG_le : ∀ (L : List (List UInt8)) (p : Pos) (a : List Mv) (i : Nat), a.length ≤ 200 → (gameG p a i L).1.length ≤ 200
  | [], _, a, _, h => h
  | u :: r, p, a, i, h => by
    unfold gameG
    repeat' split
    · exact gameG_le r p a _ h
    · exact h
    · simp
    · simp
    · exact gameG_le r _ _ _ (by rw [List.length_append, List.length_singleton]; omega)

theorem games_all {a : Option Addr} {n cap : Nat} {Z : Nat → Int} {p : Pos} {al : Option Addr} {cl : Nat} {l : List (Int × Int × Int)} (s : List UInt8) {w : World} (hin : BoardIn w a n Z) (hn : n ≤ 1048576) (hL : n = 64 → ∀ i, i < 64 → p.L i = Z i) (hbd : ∀ i, 64 ≤ i → p.L i = 0) (hwf : ∀ i, -9223372036854775808 ≤ p.L i ∧ p.L i ≤ 9223372036854775807)
    (hl : l.length ≤ 2000000) (hr : TrIn w al l) (hs : s.length ≤ 2000000) (mx : Int) (hmax : w.cell? ⟨0, 0, none⟩ = some (.int .i64 mx)) (hT : Lib.Utf8Tabs 1 2 w) (htab : Lib.TabIs Tryz.prog w "internal/strconv.uint64pow10" .u64 Lib.pow10Tab) :
    Calls Tryz.prog 4 #[.agg #[.slice a n cap, .int .i64 p.turn, .int .i64 p.castle, .int .i64 p.ep, .int .i64 p.half, .int .i64 p.full], .slice al l.length cl, .string ⟨s.toArray⟩] w (RetB (.bool true) w) := by
  cases hmay : mayB n p with
  | false => exact games_no ⟨s.toArray⟩ hin hn hL hbd hwf hmay hl hr
  | true =>
    have h64 : n = 64 := by
      have h := hmay
      simp only [mayB, mayHead, Bool.and_eq_true, beq_iff_eq, decide_eq_true_eq] at h
      omega
    subst h64
    have hm := mayP_of hmay hbd
    obtain ⟨b, off, rfl, hB⟩ := hin.row rfl (hL rfl)
    have hbr : Brd w b off p.L := ⟨hB.lt, hB.cell, hm.ok.bd⟩
    have h0lt : 0 < w.heap.size := World.block_lt_of_cell? w ⟨0, 0, none⟩ hmax
    have hte : ∃ S7 C8, ((200 < l.length ∧ S7 = [] ∧ C8 = 11) ∨ (l.length ≤ 200 ∧ ∃ S12 ok, tellV (tellS p true [] l) = .tuple #[.string ⟨S12.toArray⟩, .bool ok] ∧ ((ok = true ∧ C8 = 0 ∧ S7 = S12) ∨ (ok = false ∧ C8 = 8 ∧ S7 = [])))) ∧
        ∀ b' off' cap' al' cl' w1, Below w.heap.size w w1 → Brd w1 b' off' p.L → TrIn w1 al' l → Calls Tryz.prog 14 #[chessV b' off' cap' p, .slice al' l.length cl'] w1 (RetB (.tuple #[strV S7, .int .i64 C8]) w1) := by
      by_cases hmany : 200 < l.length
      · exact ⟨[], 11, .inl ⟨hmany, rfl, rfl⟩, fun b' off' cap' al' cl' w1 _ hB' _ => tellP_many al' l.length cl' hm hB' hmany⟩
      · have hfew : l.length ≤ 200 := by omega
        have hlaw := tell_law l p hm.ok.turn
        have hyes : ∀ b' off' cap' al' cl' w1, Below w.heap.size w w1 → Brd w1 b' off' p.L → TrIn w1 al' l → Calls Tryz.prog 14 #[chessV b' off' cap' p, .slice al' l.length cl'] w1 (RetB (tellVP (tellA p true [] l)) w1) :=
          fun b' off' cap' al' cl' w1 hb hB' hr' => tellP_yes b' off' cap' al' cl' p l w1 hm hB' hfew hr' (pow10_below htab hb)
        cases hA : tellA p true [] l with
        | none =>
          rw [hA] at hlaw hyes
          exact ⟨[], 8, .inr ⟨hfew, [], false, by rw [hlaw]; rfl, .inr ⟨rfl, rfl, rfl⟩⟩, hyes⟩
        | some ws =>
          rw [hA] at hlaw hyes
          exact ⟨joinB ws, 0, .inr ⟨hfew, joinB ws, true, by rw [hlaw]; rfl, .inl ⟨rfl, rfl, rfl⟩⟩, hyes⟩
    have hga : ∃ (G : List Mv) (N10 : Nat) (C11 : Int), G.length ≤ 200 ∧ ((4000 < s.length ∧ N10 = 0 ∧ C11 = 2 ∧ G = []) ∨ (s.length ≤ 4000 ∧ (gameG p [] 0 (wordsL s)).2.1 = N10 ∧ (gameG p [] 0 (wordsL s)).2.2 = C11 ∧ (gameG p [] 0 (wordsL s)).1 = G)) ∧
        ∀ b' off' cap' w1, Below w.heap.size w w1 → Brd w1 b' off' p.L → Calls Tryz.prog 16 #[chessV b' off' cap' p, .string ⟨s.toArray⟩] w1 fun e w' => ∃ v, e = .returned (.tuple #[v, .int .i64 N10, .int .i64 C11]) ∧ MvSl w' v G ∧ Below w1.heap.size w1 w' := by
      by_cases hbig : 4000 < s.length
      · refine ⟨[], 0, 2, by simp, .inl ⟨hbig, rfl, rfl, rfl⟩, fun b' off' cap' w1 _ hB' => (gameP_big (cap := cap') s hm hB' hbig).mono ?_⟩
        rintro e w' ⟨rfl, hb⟩
        exact ⟨_, rfl, .inl ⟨rfl, rfl⟩, hb⟩
      · have hsm : s.length ≤ 4000 := by omega
        exact ⟨_, _, _, gameG_le _ p [] 0 (by simp), .inr ⟨hsm, rfl, rfl, rfl⟩, fun b' off' cap' w1 hb hB' => gameP_yes b' off' cap' p s w1 hm hB' hsm mx ((hb.cell (p := ⟨0, 0, none⟩) h0lt).trans hmax) (Utf8Tabs_below hT hb)⟩
    obtain ⟨S7, C8, ht1, ht2⟩ := hte
    obtain ⟨G, N10, C11, hgl, hg1, hg2⟩ := hga
    exact games_walk hm hbr hl hr hs (by omega) ⟨ht1, hg1⟩ ht2 hg2

end Go.Proofs.YthffhhbbhjcdeaaGreatDoor
