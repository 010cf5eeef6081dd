/- WALKS: the end of a move's word. -/
import Derived.Test.YthffhhbbhjcdeaaGreatDoorD1
set_option linter.unusedVariables false
set_option linter.unusedSimpArgs false
namespace Go.Proofs.YthffhhbbhjcdeaaGreatDoor
open Go.RowKit
set_option maxRecDepth 100000

theorem Brd.other {w : World} {b off k : Nat} {L : Nat → Int} (h : Brd w b off L) (hne : b ≠ k) (o : Nat) (v : Value) : Brd (w.setCell ⟨k, o, none⟩ v) b off L :=
  ⟨lt_heap (Below.heap_setCell w ⟨k, o, none⟩ v b hne) h.lt, fun i hi => (cell_heap (Below.heap_setCell w ⟨k, o, none⟩ v b hne)).trans (h.cell i hi), h.bd⟩

structure EN0 (w wx : World) (S b off cap : Nat) (p : Pos) (v : Value) (m : Mv) : Prop where
  scr : Scr wx S b off cap p v
  kM : Blk wx w.heap.size #[.int .i64 m.fr, .int .i64 m.tg, .int .i64 m.into]
  below : Below w.heap.size w wx
theorem EN0.cells {w wx w' : World} {S b off cap : Nat} {p : Pos} {v : Value} {m : Mv} (h : EN0 w wx S b off cap p v m) (hb : Below wx.heap.size wx w') :
    w'.cell? ⟨S, 0, none⟩ = some (.slice (some ⟨b, off, none⟩) 64 cap) ∧ w'.cell? ⟨S, 1, none⟩ = some (.int .i64 p.turn) ∧ w'.cell? ⟨S, 2, none⟩ = some (.int .i64 p.castle) ∧ w'.cell? ⟨S, 3, none⟩ = some (.int .i64 p.ep) ∧ w'.cell? ⟨S, 4, none⟩ = some (.int .i64 p.half) ∧ w'.cell? ⟨S, 5, none⟩ = some (.int .i64 p.full) ∧
    w'.cell? ⟨w.heap.size, 0, none⟩ = some (.int .i64 m.fr) ∧ w'.cell? ⟨w.heap.size, 1, none⟩ = some (.int .i64 m.tg) ∧ w'.cell? ⟨w.heap.size, 2, none⟩ = some (.int .i64 m.into) := by
  have h1 := (h.scr.below hb).blk
  have h2 := h.kM.below hb h.kM.lt
  exact ⟨h1.cell rfl, h1.cell rfl, h1.cell rfl, h1.cell rfl, h1.cell rfl, h1.cell rfl, h2.cell rfl, h2.cell rfl, h2.cell rfl⟩

set_option maxHeartbeats 8000000 in
theorem endP_any {S b off cap : Nat} {p : Pos} {v : Value} {w : World} {m : Mv} (hm : MayP p) (hs : Scr w S b off cap p v) (hmem : m ∈ movesR p) :
    Calls Tryz.prog 48 #[.pointer (some ⟨S, 0, none⟩), mvV m] w (RetB (strV (endL p m)) w) := by
  obtain ⟨hP, hsafe⟩ := mem_movesR.1 hmem
  have hN := mayP_next hm hP hsafe
  have hA := afterP_m hm hP b off cap
  have Hm := Lib.hid hm
  have HN := Lib.hid hN
  have Hsl := hs.blk.lt
  have hend : endL p m = if inCheckB (doneL p m) (1 - p.turn) then (if (movesR (doneR p m)).length = 0 then [35] else [43]) else [] := rfl
  have Hend := Lib.hid hend
  unfold mvV at hA ⊢
  unfold chessV at hA
  have HA := Lib.hid hA
  have HS := Lib.hid hs
  clear hend hA hm hN hs hmem hsafe hP
  go_enter Tryz.func48, Tryz.ntmps48
  go_upto_region 1 with fail
  generalize hW0 : World.alloc _ _ = W0
  have hE : EN0 w W0 S b off cap p v m := by
    have hb0 : Below w.heap.size w W0 := by rw [← hW0]; exact (Below.refl _ _).alloc (Nat.le_refl _) _
    exact ⟨HS.out.below hb0, by rw [← hW0]; exact Blk.new _ _ _, hb0⟩
  clear hW0
  go_cut [5] from 6 to 11 (fun s5 wx => ∃ Q g cq, s5 = .pointer (some ⟨Q, 0, none⟩) ∧ Blk wx Q #[.slice (some ⟨g, 0, none⟩) 64 cq, .int .i64 (doneR p m).turn, .int .i64 (doneR p m).castle, .int .i64 (doneR p m).ep, .int .i64 (doneR p m).half, .int .i64 (doneR p m).full] ∧ Brd wx g 0 (doneL p m) ∧ Below w.heap.size w wx)
  case first =>
    have hBr : Brd W0.drew b off p.L := ⟨hE.scr.brd.lt, hE.scr.brd.cell, hE.scr.brd.bd⟩
    have hBr2 : ∀ o, Brd (W0.alloc o).drew b off p.L := fun o => ⟨(hE.scr.brd.alloc o).lt, (hE.scr.brd.alloc o).cell, hE.scr.brd.bd⟩
    have hbe := hE.below
    have hSl0 := hE.scr.blk.lt
    have hMl0 := hE.kM.lt
    refine wp_region_held_drew (S := (fun w' => w'.cell? ⟨S, 0, none⟩ = some (.slice (some ⟨b, off, none⟩) 64 cap) ∧ w'.cell? ⟨S, 1, none⟩ = some (.int .i64 p.turn) ∧ w'.cell? ⟨S, 2, none⟩ = some (.int .i64 p.castle) ∧ w'.cell? ⟨S, 3, none⟩ = some (.int .i64 p.ep) ∧ w'.cell? ⟨S, 4, none⟩ = some (.int .i64 p.half) ∧ w'.cell? ⟨S, 5, none⟩ = some (.int .i64 p.full) ∧ w'.cell? ⟨w.heap.size, 0, none⟩ = some (.int .i64 m.fr) ∧ w'.cell? ⟨w.heap.size, 1, none⟩ = some (.int .i64 m.tg) ∧ w'.cell? ⟨w.heap.size, 2, none⟩ = some (.int .i64 m.into))) (by kernel_rfl) (hE.cells ((Below.refl _ W0).drew)) (fun hHeld => ?_)
    refine wpAnyH_take (i := 0) (v := ?_) rfl (by kernel_rfl) (by kernel_rfl) (by kernel_rfl) (fun _ _ _ h => h) (Or.inl ⟨by rfl, ?_⟩) (by assumption) ?_
    rotate_left
    · intro w2 hSw; (try dsimp only at hSw); go_simp; try with_reducible rfl
    simp only [Act.put, List.setIfInBounds_toArray, List.set_cons_zero, List.set_cons_succ]
    refine wpAnyH_take (i := 1) (v := ?_) rfl (by kernel_rfl) (by kernel_rfl) (by kernel_rfl) (fun _ _ _ h => h) (Or.inl ⟨by rfl, ?_⟩) (by assumption) ?_
    rotate_left
    · intro w2 hSw; (try dsimp only at hSw); go_simp; try with_reducible rfl
    simp only [Act.put, List.setIfInBounds_toArray, List.set_cons_zero, List.set_cons_succ]
    refine wpAnyH_take (i := 2) (v := ?_) rfl (by kernel_rfl) (by kernel_rfl) (by kernel_rfl) (fun _ _ _ h => h) (Or.inl ⟨by rfl, ?_⟩) (by assumption) ?_
    rotate_left
    · intro w2 hSw; (try dsimp only at hSw); go_simp; try with_reducible rfl
    simp only [Act.put, List.setIfInBounds_toArray, List.set_cons_zero, List.set_cons_succ]
    refine wpAnyH_take (i := 3) (v := ?_) rfl (by kernel_rfl) (by kernel_rfl) (by kernel_rfl) (fun _ _ _ h => h) (Or.inl ⟨by rfl, ?_⟩) (by assumption) ?_
    rotate_left
    · intro w2 hSw; (try dsimp only at hSw); go_simp; try with_reducible rfl
    simp only [Act.put, List.setIfInBounds_toArray, List.set_cons_zero, List.set_cons_succ]
    refine wpAnyH_take (i := 4) (v := ?_) rfl (by kernel_rfl) (by kernel_rfl) (by kernel_rfl) (fun _ _ _ h => h) (Or.inl ⟨by rfl, ?_⟩) (by assumption) ?_
    rotate_left
    · intro w2 hSw; (try dsimp only at hSw); go_simp; try with_reducible rfl
    simp only [Act.put, List.setIfInBounds_toArray, List.set_cons_zero, List.set_cons_succ]
    refine wpAnyH_ready (rs := [5, 6]) (by kernel_rfl) (by simp) ?_
    refine AllReadyH.cons rfl (fun K hK => ?_) (AllReadyH.cons rfl (fun K hK => ?_) AllReadyH.nil)
    · go_simp
      refine (HA.out _ hBr).mono ?_
      rintro e w1 ⟨g, cq, rfl, hB, hg, hb1⟩
      have h1 : Below W0.heap.size W0 w1 := ((Below.refl _ W0).drew).trans hb1
      refine hK.out _ _ (hE.cells h1) (fun hHeld => ?_)
      clear hK K
      try simp only [Act.put, List.setIfInBounds_toArray, List.set_cons_zero, List.set_cons_succ]
      refine wpAnyH_ready (rs := [6]) (by kernel_rfl) (by simp) ?_
      refine AllReadyH.cons rfl (fun K hK => ?_) AllReadyH.nil
      go_simp
      refine hK.out _ _ (hE.cells (h1.alloc h1.size _)) (fun hHeld => ?_)
      clear hK K
      try simp only [Act.put, List.setIfInBounds_toArray, List.set_cons_zero, List.set_cons_succ]
      refine wpAnyH_ready (rs := [7]) (by kernel_rfl) (by simp) ?_
      refine AllReadyH.cons rfl (fun K hK => ?_) AllReadyH.nil
      go_simp
      refine hK.out _ _ (hE.cells (h1.alloc h1.size _)) (fun hHeld => ?_)
      clear hK K
      refine wpAnyH_done (by kernel_rfl) ?_ _
      go_wp2
      go_meet
      exact ⟨w1.heap.size, g, cq, rfl, Blk.new' rfl _ _, hB.alloc _, (hbe.trans (h1.mono hbe.size)).alloc (by have := h1.size; have := hbe.size; omega) _⟩
    · go_simp
      have h0 : ∀ o, Below W0.heap.size W0 (W0.alloc o).drew := fun o => ((Below.refl W0.heap.size W0).alloc (Nat.le_refl _) o).drew
      refine hK.out _ _ (hE.cells (h0 _)) (fun hHeld => ?_)
      clear hK K
      try simp only [Act.put, List.setIfInBounds_toArray, List.set_cons_zero, List.set_cons_succ]
      refine wpAnyH_ready (rs := [5]) (by kernel_rfl) (by simp) ?_
      refine AllReadyH.cons rfl (fun K hK => ?_) AllReadyH.nil
      go_simp
      refine (HA.out _ (hBr2 _)).mono ?_
      rintro e w1 ⟨g, cq, rfl, hB, hg, hb1⟩
      have hgl := hB.lt
      have hlt2 : W0.heap.size < (W0.alloc (.cells #[.slice none 0 0, .int .i64 0, .int .i64 0, .int .i64 0, .int .i64 0, .int .i64 0] 24)).drew.heap.size := by show W0.heap.size < (W0.alloc _).heap.size; simp
      have h1 : Below W0.heap.size W0 w1 := (h0 _).trans (hb1.mono (by omega))
      have hZ : Blk w1 W0.heap.size #[.slice none 0 0, .int .i64 0, .int .i64 0, .int .i64 0, .int .i64 0, .int .i64 0] := Blk.below (w := (W0.alloc (.cells #[.slice none 0 0, .int .i64 0, .int .i64 0, .int .i64 0, .int .i64 0, .int .i64 0] 24)).drew) (Blk.new W0 _ 24) hb1 hlt2
      refine hK.out _ _ (hE.cells h1) (fun hHeld => ?_)
      clear hK K
      try simp only [Act.put, List.setIfInBounds_toArray, List.set_cons_zero, List.set_cons_succ]
      have z0 := hZ.cell (o := 0) rfl
      have y0 := hZ.free 0
      have z1 := hZ.cell (o := 1) rfl
      have y1 := hZ.free 1
      have z2 := hZ.cell (o := 2) rfl
      have y2 := hZ.free 2
      have z3 := hZ.cell (o := 3) rfl
      have y3 := hZ.free 3
      have z4 := hZ.cell (o := 4) rfl
      have y4 := hZ.free 4
      have z5 := hZ.cell (o := 5) rfl
      have y5 := hZ.free 5
      refine wpAnyH_ready (rs := [7]) (by kernel_rfl) (by simp) ?_
      refine AllReadyH.cons rfl (fun K hK => ?_) AllReadyH.nil
      go_simp
      refine hK.out _ _ (hE.cells ?_) (fun hHeld => ?_)
      · iterate 6 refine Below.setCell ?_ (by dsimp only; omega) _
        exact h1
      clear hK K
      refine wpAnyH_done (by kernel_rfl) ?_ _
      go_wp2
      go_meet
      have hg' : W0.heap.size + 1 ≤ g := Nat.le_trans (by omega) hg
      have hbs := hbe.size
      refine ⟨W0.heap.size, g, cq, rfl, (((((hZ.set 0 _).set 1 _).set 2 _).set 3 _).set 4 _).set 5 _, ?_, ?_⟩
      · iterate 6 refine Brd.other ?_ (by omega) _ _
        exact hB
      · iterate 6 refine Below.setCell ?_ (by dsimp only; omega) _
        exact hbe.trans (h1.mono hbe.size)
  case rest =>
  obtain ⟨Q, g, cq, rfl, hQ, hB, hb⟩ := hcut
  clear hE
  have q0 := hQ.cell (o := 0) rfl
  have q1 := hQ.cell (o := 1) rfl
  have q2 := hQ.cell (o := 2) rfl
  have q3 := hQ.cell (o := 3) rfl
  have q4 := hQ.cell (o := 4) rfl
  have q5 := hQ.cell (o := 5) rfl
  have hts : (doneR p m).turn = 1 - p.turn := rfl
  have hking : HasKing (doneL p m) (doneR p m).turn := by
    obtain ⟨k, hk, hku⟩ := HN.out.king (doneR p m).turn HN.out.ok.turn
    exact ⟨k, hk, (hku k).2 rfl⟩
  have HC := Lib.hid (checkedP_any g 0 cq (doneL p m) (doneR p m).turn wc HN.out.ok.turn hB hking)
  have hend := Hend.out
  rw [← hts] at hend
  clear Hend hts hking
  have Hend := Lib.hid hend
  clear hend
  generalize hck : inCheckB (doneL p m) (doneR p m).turn = ck at *
  have Hck := Lib.hid hck
  clear hck
  cases ck
  case false =>
    go_wp2_with (go_at_call 61; refine HC.out.mono ?_; rintro e w1 ⟨rfl, hb1⟩)
    go_ret
    exact ⟨by rw [Hend.out]; rfl, hb.trans (hb1.mono hb.size)⟩
  case true =>
    go_upto_region 4 with (go_at_call 61; refine HC.out.mono ?_; rintro e w1 ⟨rfl, hb1⟩)
    have hQ1 := hQ.below hb1 hQ.lt
    have hB1 := hB.below hb1 hB.lt
    have hb01 : Below w.heap.size w w1 := hb.trans (hb1.mono hb.size)
    clear q0 q1 q2 q3 q4 q5
    have q0 := hQ1.cell (o := 0) rfl
    have q1 := hQ1.cell (o := 1) rfl
    have q2 := hQ1.cell (o := 2) rfl
    have q3 := hQ1.cell (o := 3) rfl
    have q4 := hQ1.cell (o := 4) rfl
    have q5 := hQ1.cell (o := 5) rfl
    have hM := movesP_any (cap := cq) HN.out (w := w1) (b := g) (off := 0) hB1
    unfold chessV at hM
    have HM := Lib.hid hM
    clear hM
    have hsl : ∀ (w2 : World) (v2 : Value), MvSl w2 v2 (movesR (doneR p m)) → ∃ ao cp, v2 = .slice ao (movesR (doneR p m)).length cp := by
      rintro w2 v2 (⟨rfl, h0⟩ | ⟨b, off, cap, rfl, _⟩)
      · exact ⟨none, 0, by rw [h0]; rfl⟩
      · exact ⟨_, _, rfl⟩
    have HSL := Lib.hid hsl
    clear hsl
    generalize hln : (movesR (doneR p m)).length = ln at *
    have Hln := Lib.hid hln
    clear hln
    cases hz : ((ln : Int) == 0)
    case true =>
      have hz0 : ln = 0 := by simp at hz; omega
      have Hz := Lib.hid hz0
      clear hz0
      go_wp2_with (go_at_call 45; refine HM.out.mono ?_; rintro e w2 ⟨v2, rfl, hsl2, hb2⟩; obtain ⟨ao, cp, rfl⟩ := HSL.out _ _ hsl2)
      go_ret
      exact ⟨by rw [Hend.out]; simp [Hz.out]; rfl, hb01.trans (hb2.mono hb01.size)⟩
    case false =>
      have hz0 : ¬ ln = 0 := by simp at hz; omega
      have Hz := Lib.hid hz0
      clear hz0
      go_wp2_with (go_at_call 45; refine HM.out.mono ?_; rintro e w2 ⟨v2, rfl, hsl2, hb2⟩; obtain ⟨ao, cp, rfl⟩ := HSL.out _ _ hsl2)
      go_ret
      exact ⟨by rw [Hend.out]; simp [Hz.out]; rfl, hb01.trans (hb2.mono hb01.size)⟩

end Go.Proofs.YthffhhbbhjcdeaaGreatDoor
