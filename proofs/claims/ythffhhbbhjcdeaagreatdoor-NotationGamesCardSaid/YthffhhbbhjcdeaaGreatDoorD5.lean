/- WALKS: a move's word; Write. -/
import Derived.Test.YthffhhbbhjcdeaaGreatDoorD4
set_option linter.unusedVariables false
set_option linter.unusedSimpArgs false
namespace Go.Proofs.YthffhhbbhjcdeaaGreatDoor
open Go.RowKit
set_option maxRecDepth 100000

theorem mcells {w wx w' : World} {k : Nat} {c0 c1 c2 : Value} (h : Blk wx k #[c0, c1, c2]) (hb : Below wx.heap.size wx w') :
    w'.cell? ⟨k, 0, none⟩ = some c0 ∧ w'.cell? ⟨k, 1, none⟩ = some c1 ∧ w'.cell? ⟨k, 2, none⟩ = some c2 := by
  have h2 := h.below hb h.lt
  exact ⟨h2.cell rfl, h2.cell rfl, h2.cell rfl⟩

theorem endL_le1 (p : Pos) (m : Mv) : (endL p m).length ≤ 1 := by
  unfold endL
  repeat' split
  all_goals simp

set_option maxHeartbeats 4000000 in
theorem wordP_any {S b off cap : Nat} {p : Pos} {v : Value} {w : World} {m : Mv} (hm : MayP p) (hs : Scr w S b off cap p v) (hmem : m ∈ movesR p) :
    Calls Tryz.prog 22 #[.pointer (some ⟨S, 0, none⟩), mvV m] w (RetB (strV (plainL p m ++ endL p m)) w) := by
  have hP := (mem_movesR.1 hmem).1
  have hA : ∀ w1, Scr w1 S b off cap p v → Calls Tryz.prog 47 #[.pointer (some ⟨S, 0, none⟩), mvV m] w1 (RetB (strV (plainL p m)) w1) := fun w1 h => plainP_any hm h hP
  have hE : ∀ w1, Scr w1 S b off cap p v → Calls Tryz.prog 48 #[.pointer (some ⟨S, 0, none⟩), mvV m] w1 (RetB (strV (endL p m)) w1) := fun w1 h => endP_any hm h hmem
  have hpl := plainL_le p m
  have hel := endL_le1 p m
  generalize plainL p m = pl at *
  generalize endL p m = el at *
  unfold mvV at hA hE ⊢
  unfold strV at hA hE
  have HA := Lib.hid hA
  have HE := Lib.hid hE
  have HS := Lib.hid hs
  have hb0 : ∀ o, Below w.heap.size w (w.alloc o) := fun o => (Below.refl _ _).alloc (Nat.le_refl _) o
  clear hA hE hs hmem hP hm
  go_enter Tryz.func22, Tryz.ntmps22
  go_upto_region 1 with fail
  generalize hW0 : World.alloc _ _ = W0
  have hM : Blk W0 w.heap.size #[.int .i64 m.fr, .int .i64 m.tg, .int .i64 m.into] := by rw [← hW0]; exact Blk.new _ _ _
  have hbw : Below w.heap.size w W0 := by rw [← hW0]; exact hb0 _
  clear hW0 hb0
  have hS0 := HS.out.below (hbw.trans ((Below.refl W0.heap.size W0).drew.mono hbw.size))
  have hMl := hM.lt
  have m0 := hM.cell (o := 0) rfl
  have m1 := hM.cell (o := 1) rfl
  have m2 := hM.cell (o := 2) rfl
  have hsum : ¬ 9223372036854775807 < pl.length + el.length := by omega
  go_region_held3 (fun w' => w'.cell? ⟨w.heap.size, 0, none⟩ = some (.int .i64 m.fr) ∧ w'.cell? ⟨w.heap.size, 1, none⟩ = some (.int .i64 m.tg) ∧ w'.cell? ⟨w.heap.size, 2, none⟩ = some (.int .i64 m.into))
    (first | exact mcells (w := w) hM ((((Below.refl W0.heap.size W0).drew).trans hb1).trans (hb2.mono hb1.size)) | exact mcells (w := w) hM (((Below.refl W0.heap.size W0).drew).trans hb1) | go_keep)
    (first
      | (go_at_call 47; refine (HA.out _ hS0).mono ?_; rintro e w1 ⟨rfl, hb1⟩)
      | (go_at_call 48; refine (HE.out _ (hS0.below hb1)).mono ?_; rintro e w2 ⟨rfl, hb2⟩))
  go_wp2
  go_ret
  refine ⟨?_, hbw.trans ((((Below.refl W0.heap.size W0).drew.trans hb1).trans (hb2.mono hb1.size)).mono hbw.size)⟩
  rw [bytes_app]
  rfl

theorem hasMv_yes {l : List Mv} {x y z : Int} (h : hasMv l x y z = true) : ∃ m, m ∈ l ∧ (m.fr : Int) = x ∧ (m.tg : Int) = y ∧ m.into = z := by
  unfold hasMv mvIdx at h
  cases hf : l.findIdx? (fun m => mvIs m x y z) with
  | none => rw [hf] at h; simp at h
  | some i =>
    rw [List.findIdx?_eq_some_iff_getElem] at hf
    obtain ⟨hi, h1, _⟩ := hf
    unfold mvIs at h1
    simp only [Bool.and_eq_true, beq_iff_eq] at h1
    exact ⟨l[i], List.getElem_mem hi, h1.1.1, h1.1.2, h1.2⟩
theorem hasMv_idx (l : List Mv) (x y z : Int) : hasMv l x y z = !decide (mvIdx l x y z < 0) := by
  unfold hasMv
  rw [Bool.eq_iff_iff]
  simp

set_option maxHeartbeats 4000000 in
theorem writeP_no (a : Option Addr) (n cap : Nat) (p : Pos) (x y z : Int) (w : World) (hn : n ≤ 2000000) (hrow : n = 64 → ∃ b off, a = some ⟨b, off, none⟩ ∧ BrdA w b off p.L) (hbd : ∀ i, 64 ≤ i → p.L i = 0) (hwf : ∀ i, -9223372036854775808 ≤ p.L i ∧ p.L i ≤ 9223372036854775807) (hm : mayB n p = false) :
    Calls Tryz.prog 5 #[.agg #[.slice a n cap, .int .i64 p.turn, .int .i64 p.castle, .int .i64 p.ep, .int .i64 p.half, .int .i64 p.full], .agg #[.int .i64 x, .int .i64 y, .int .i64 z]] w (RetB (.tuple #[strV [], .int .i64 12]) w) := by
  have hb0 : ∀ o o', Below w.heap.size w ((w.alloc o).alloc o') := fun o o' => ((Below.refl _ _).alloc (Nat.le_refl _) o).alloc (by simp) o'
  have hN : ∀ w1, Below w.heap.size w w1 → Calls Tryz.prog 20 #[.agg #[.slice a n cap, .int .i64 p.turn, .int .i64 p.castle, .int .i64 p.ep, .int .i64 p.half, .int .i64 p.full]] w1 (RetB (.tuple #[.pointer none, .int .i64 12]) w1) :=
    fun w1 hb => newScribe_no a n cap p w1 hn (fun h => by obtain ⟨b, off, e, hB⟩ := hrow h; exact ⟨b, off, e, hB.below hb hB.lt⟩) hbd hwf hm
  have HN := Lib.hid hN
  clear hN hrow hbd hwf hm hn
  go_enter Tryz.func5, Tryz.ntmps5
  go_upto_region 1 with fail
  generalize hW0 : World.alloc _ _ = W0
  have hP : Blk W0 w.heap.size #[.slice a n cap, .int .i64 p.turn, .int .i64 p.castle, .int .i64 p.ep, .int .i64 p.half, .int .i64 p.full] := by rw [← hW0]; exact (Blk.new w _ _).alloc _
  have hbw : Below w.heap.size w W0 := by rw [← hW0]; exact hb0 _ _
  clear hW0 hb0
  have p0 := hP.cell (o := 0) rfl
  have p1 := hP.cell (o := 1) rfl
  have p2 := hP.cell (o := 2) rfl
  have p3 := hP.cell (o := 3) rfl
  have p4 := hP.cell (o := 4) rfl
  have p5 := hP.cell (o := 5) rfl
  go_wp2_with (go_at_call 20; refine (HN.out _ hbw).mono ?_; rintro e w1 ⟨rfl, hb1⟩)
  go_ret2
  exact ⟨rfl, hbw.trans (hb1.mono hbw.size)⟩

def WrOut (p : Pos) (x y z : Int) (e : Ending) : Prop :=
  if hasMv (movesR p) x y z = true then ∃ m, m ∈ movesR p ∧ (m.fr : Int) = x ∧ (m.tg : Int) = y ∧ m.into = z ∧ e = .returned (.tuple #[strV (plainL p m ++ endL p m), .int .i64 0]) else e = .returned (.tuple #[strV [], .int .i64 8])

set_option maxHeartbeats 4000000 in
theorem writeP_yes {b off cap : Nat} {p : Pos} (x y z : Int) {w : World} (hm : MayP p) (hmay : mayB 64 p = true) (hbr : Brd w b off p.L) :
    Calls Tryz.prog 5 #[chessV b off cap p, .agg #[.int .i64 x, .int .i64 y, .int .i64 z]] w fun e w' => WrOut p x y z e ∧ Below w.heap.size w w' := by
  have hb0 : ∀ o o', Below w.heap.size w ((w.alloc o).alloc o') := fun o o' => ((Below.refl _ _).alloc (Nat.le_refl _) o).alloc (by simp) o'
  have hlt := hbr.lt
  have hN : ∀ w1, Below w.heap.size w w1 → _ := fun w1 hb => newScribe_yes (cap := cap) hm hmay (hbr.below hb hlt)
  unfold chessV at hN ⊢
  have HN := Lib.hid hN
  have Hm := Lib.hid hm
  clear hN hmay hbr hm
  go_enter Tryz.func5, Tryz.ntmps5
  go_upto_region 1 with fail
  generalize hW0 : World.alloc _ _ = W0
  have hP : Blk W0 w.heap.size #[.slice (some ⟨b, off, none⟩) 64 cap, .int .i64 p.turn, .int .i64 p.castle, .int .i64 p.ep, .int .i64 p.half, .int .i64 p.full] := by rw [← hW0]; exact (Blk.new w _ _).alloc _
  have hM : Blk W0 (w.heap.size + 1) #[.int .i64 x, .int .i64 y, .int .i64 z] := by rw [← hW0]; exact Blk.new' (by simp) _ _
  have hbw : Below w.heap.size w W0 := by rw [← hW0]; exact hb0 _ _
  clear hW0 hb0
  have p0 := hP.cell (o := 0) rfl
  have p1 := hP.cell (o := 1) rfl
  have p2 := hP.cell (o := 2) rfl
  have p3 := hP.cell (o := 3) rfl
  have p4 := hP.cell (o := 4) rfl
  have p5 := hP.cell (o := 5) rfl
  go_upto_region 4 with (go_at_call 20; refine (HN.out _ hbw).mono ?_; rintro e w1 ⟨S, v, rfl, hS, hb1⟩)
  clear p0 p1 p2 p3 p4 p5 hP
  have hM1 := hM.below hb1 hM.lt
  have hbw1 : Below w.heap.size w w1 := hbw.trans (hb1.mono hbw.size)
  clear hM hbw
  have m0 := hM1.cell (o := 0) rfl
  have m1 := hM1.cell (o := 1) rfl
  have m2 := hM1.cell (o := 2) rfl
  have s6 := hS.blk.cell (o := 6) rfl
  have hSl := hS.blk.lt
  have hMl := hM1.lt
  have hmax := movesUpto_le p 64
  have hC := containsM_sl v (movesR p) x y z w1.drew (hS.sl.below ((Below.refl _ _).drew)) (Nat.le_trans hmax (by decide))
  have HC := Lib.hid hC
  have HS := Lib.hid hS
  clear hC hS hmax
  obtain ⟨ao, nn, cp, rfl⟩ : ∃ ao n cp, v = .slice ao n cp := by
    rcases HS.out.sl with ⟨rfl, _⟩ | ⟨b, off, cap, rfl, _⟩
    · exact ⟨_, _, _, rfl⟩
    · exact ⟨_, _, _, rfl⟩
  generalize hh : hasMv (movesR p) x y z = hv at HC
  have Hh := Lib.hid hh
  clear hh
  go_cut [17] from 18 to 24 (fun s17 wx => s17 = .bool (!hv) ∧ Below w1.heap.size w1 wx)
  case first =>
    go_region_held3 (fun w' => w'.cell? ⟨S, 6, none⟩ = some (.slice ao nn cp) ∧ w'.cell? ⟨w.heap.size + 1, 0, none⟩ = some (.int .i64 x) ∧ w'.cell? ⟨w.heap.size + 1, 1, none⟩ = some (.int .i64 y) ∧ w'.cell? ⟨w.heap.size + 1, 2, none⟩ = some (.int .i64 z))
      (first | exact ⟨(hb2.cell (p := ⟨S, 6, none⟩) hSl).trans s6, mcells (w := w) hM1 (((Below.refl w1.heap.size w1).drew).trans hb2)⟩ | go_keep)
      (first
        | (go_at_call 21; refine HC.out.mono ?_; rintro e w2 ⟨rfl, hb2⟩))
    go_wp2
    go_meet
    exact ⟨rfl, ((Below.refl _ _).drew).trans hb2⟩
  case rest =>
  obtain ⟨rfl, hb2⟩ := hcut
  have hM2 := hM1.below hb2 hM1.lt
  have hS2 := HS.out.below hb2
  have hbw2 : Below w.heap.size w wc := hbw1.trans (hb2.mono hbw1.size)
  clear m0 m1 m2 s6
  cases hv
  case false =>
    go_wp2
    go_ret2
    exact ⟨by unfold WrOut; rw [if_neg (by rw [Hh.out]; decide)]; rfl, hbw2⟩
  case true =>
    obtain ⟨m, hmem, hx, hy, hz⟩ := hasMv_yes Hh.out
    have hW := wordP_any Hm.out hS2 hmem
    unfold mvV strV at hW
    rw [hx, hy, hz] at hW
    have HW := Lib.hid hW
    have HE := Lib.hid (show ∃ m, m ∈ movesR p ∧ (m.fr : Int) = x ∧ (m.tg : Int) = y ∧ m.into = z ∧ plainL p m ++ endL p m = plainL p m ++ endL p m from ⟨m, hmem, hx, hy, hz, rfl⟩)
    have Hq := Lib.hid (And.intro hmem (And.intro hx (And.intro hy hz)))
    clear hW hmem hx hy hz
    have m0 := hM2.cell (o := 0) rfl
    have m1 := hM2.cell (o := 1) rfl
    have m2 := hM2.cell (o := 2) rfl
    go_wp2_with (go_at_call 22; refine HW.out.mono ?_; rintro e w3 ⟨rfl, hb3⟩)
    go_ret2
    exact ⟨by unfold WrOut; rw [if_pos Hh.out]; exact ⟨m, Hq.out.1, Hq.out.2.1, Hq.out.2.2.1, Hq.out.2.2.2, rfl⟩, hbw2.trans (hb3.mono hbw2.size)⟩

end Go.Proofs.YthffhhbbhjcdeaaGreatDoor
