/- WALKS: the program's Moves: its state; what is appended where a move is told. -/
import Derived.Test.YthffhhbbhjcdeaaGreatDoorC7
import Derived.Test.YthffhhbbhjcdeaaGreatDoorP8
import Derived.Test.YthffhhbbhjcdeaaGreatDoorA9
import Derived.Maps.AppendAt
set_option linter.unusedVariables false
set_option linter.unusedSimpArgs false
namespace Go.Proofs.YthffhhbbhjcdeaaGreatDoor
open Go.RowKit
attribute [local go_sem] Oper.semAt_some
set_option maxRecDepth 100000

def addV (n₀ : Nat) : Value := .func (.func 72) #[] #[.pointer (some ⟨n₀, 0, none⟩), .pointer (some ⟨n₀ + 1, 0, none⟩)]
/-- Moves at work: its boxes of the position, of the list, of add; the list. -/
structure GS (n₀ : Nat) (w W : World) (b off cap : Nat) (p : Pos) (v : Value) (l : List Mv) : Prop where
  bP : Blk W n₀ #[.slice (some ⟨b, off, none⟩) 64 cap, .int .i64 p.turn, .int .i64 p.castle, .int .i64 p.ep, .int .i64 p.half, .int .i64 p.full]
  bL : Boxed W (n₀ + 1) 37 v
  bA : Boxed W (n₀ + 2) 101 (addV n₀)
  own : W.ownsRow (n₀ + 3) 26 3 v l.length (mvCells l)
  below : Below n₀ w W

section
variable {n₀ b off cap : Nat} {w W : World} {p : Pos} {v : Value} {l : List Mv}
theorem GS.lt (h : GS n₀ w W b off cap p v l) : n₀ + 2 < W.heap.size := h.bA.lt
theorem GS.ownK (h : GS n₀ w W b off cap p v l) {j : Nat} (hj : OwnK (n₀ + 1) W j) : j = n₀ + 1 ∨ n₀ + 3 ≤ j ∧ j < W.heap.size := by
  rcases hj with rfl | ⟨v', hv', hj⟩
  · exact .inl rfl
  · have := h.bL.cell
    rw [this] at hv'
    cases hv'
    exact .inr (h.own.lt j hj)
theorem GS.ol (h : GS n₀ w W b off cap p v l) : ∀ j, OwnK (n₀ + 1) W j → j < W.heap.size := fun j hj => by
  have := h.lt
  rcases h.ownK hj with h1 | h1 <;> omega
theorem GS.ge (h : GS n₀ w W b off cap p v l) : ∀ j, OwnK (n₀ + 1) W j → n₀ ≤ j := fun j hj => by
  rcases h.ownK hj with h1 | h1 <;> omega
theorem GS.cells (h : GS n₀ w W b off cap p v l) : ∀ j, OwnK (n₀ + 1) W j → ∃ o : Obj, W.heap[j]? = some o ∧ o.isCells = true := by
  intro j hj
  rcases hj with rfl | ⟨v', hv', hj⟩
  · exact ⟨_, h.bL, rfl⟩
  · have h1 := h.bL.cell
    rw [h1] at hv'
    cases hv'
    rcases h.own.2 with ⟨rfl, _⟩ | ⟨g, cap, cur, rfl, _, hgb, _⟩
    · simp [Value.ownBlock] at hj
    · obtain rfl : g = j := by simpa [Value.ownBlock] using hj
      exact ⟨_, hgb, rfl⟩
theorem GS.later {W' : World} (h : GS n₀ w W b off cap p v l) (hb : Below W.heap.size W W') : GS n₀ w W' b off cap p v l := by
  have h1 := h.lt
  exact ⟨h.bP.below hb h.bP.lt, h.bL.kept (grownN_below hb) (by simp), h.bA.kept (grownN_below hb) (by simp), h.own.kept (grownN_below hb) (by cases hv : v.ownBlock <;> simp), h.below.trans (hb.mono (by omega))⟩
/-- .. and behind the turn of a block that is no cells. -/
theorem GS.grown {B : Nat} {W' : World} {row : Option Nat} (h : GS n₀ w W b off cap p v l) (hg : W.grownBy W' row) (hB : n₀ + 3 ≤ B)
    (hr : ∀ r, row = some r → B ≤ r ∧ ∃ o : Obj, W.heap[r]? = some o ∧ o.isCells = false) : GS n₀ w W' b off cap p v l := by
  have h1 := h.lt
  refine ⟨h.bP.of_heap (hg.block _ h.bP.lt (fun e => by have := (hr _ e.symm).1; omega)), h.bL.kept hg (fun e => by have := (hr _ e.symm).1; omega), h.bA.kept hg (fun e => by have := (hr _ e.symm).1; omega), h.own.kept hg ?_, h.below.grown hg (by omega) (fun k e => by have := (hr k e).1; omega)⟩
  rcases h.own.2 with ⟨rfl, _⟩ | ⟨g, cap, cur, rfl, _, hgb, _⟩
  · exact .inl rfl
  · refine .inr fun e' => ?_
    obtain ⟨_, o, ho, hc⟩ := hr g (by simpa [Value.ownBlock] using e'.symm)
    rw [hgb] at ho; cases ho; cases hc

/-- One more is appended. -/
theorem GS.app {w1 : World} {v' : Value} (h : GS n₀ w W b off cap p v l) (tmp : Obj) (m : Mv)
    (hown' : w1.ownsRow (n₀ + 3) 26 3 v' (l.length + 1) (mvCells l ++ [.int .i64 m.fr, .int .i64 m.tg, .int .i64 m.into])) (hgrow : (W.alloc tmp).grownBy w1 v.ownBlock)
    (hat : v'.ownBlock = v.ownBlock ∨ v'.ownBlock = some (W.alloc tmp).heap.size) :
    Boxed w1 (n₀ + 1) 37 v ∧ GS n₀ w (w1.setCell ⟨n₀ + 1, 0, none⟩ v') b off cap p v' (l ++ [m]) ∧ FrK (n₀ + 1) W (w1.setCell ⟨n₀ + 1, 0, none⟩ v') := by
  have h1 := h.lt
  have hne : ∀ j, v.ownBlock = some j → n₀ + 3 ≤ j ∧ j < W.heap.size := fun j hj => h.own.lt j hj
  have hv1 : Boxed w1 (n₀ + 1) 37 v := (h.bL.alloc tmp).kept hgrow (fun e => by have := hne _ e.symm; omega)
  have hb1 : Below n₀ W w1 := ((Below.refl n₀ W).alloc (by omega) tmp).grown hgrow (by simp; omega) (fun j hj => by have := hne j hj; omega)
  have hvs := hv1.set v'
  have hsz : W.heap.size ≤ w1.heap.size := Nat.le_trans (by simp) hgrow.size
  have hkeep : ∀ k, k < W.heap.size → k ≠ n₀ + 1 → v.ownBlock ≠ some k → (w1.setCell ⟨n₀ + 1, 0, none⟩ v').heap[k]? = W.heap[k]? := fun k hk h2 h3 =>
    (Below.heap_setCell _ _ _ k (by simp; omega)).trans ((hgrow.block k (by simp; omega) (fun e => h3 e.symm)).trans (Below.heap_alloc W tmp k hk))
  have hownS : (w1.setCell ⟨n₀ + 1, 0, none⟩ v').ownsRow (n₀ + 3) 26 3 v' (l ++ [m]).length (mvCells (l ++ [m])) := by
    rw [List.length_append, List.length_singleton, mvCells_append, mvCells_one]
    exact hown'.kept (grownBy_setCell' w1 (n₀ + 1) v') (.inr (hv1.not_row (by decide) hown').symm)
  have hG : GS n₀ w (w1.setCell ⟨n₀ + 1, 0, none⟩ v') b off cap p v' (l ++ [m]) := by
    refine ⟨h.bP.of_heap (hkeep _ h.bP.lt (by omega) (fun e => by have := hne _ e; omega)), hvs, ?_, hownS, (h.below.trans hb1).setCell (p := ⟨n₀ + 1, 0, none⟩) (by simp) v'⟩
    have h2 : Boxed w1 (n₀ + 2) 101 (addV n₀) := (h.bA.alloc tmp).kept hgrow (fun e => by have := hne _ e.symm; omega)
    exact h2.kept (grownBy_setCell' w1 (n₀ + 1) v') (by simp)
  refine ⟨hv1, hG, ⟨hb1.os, hb1.tape, hb1.output, by simpa using hsz, fun k hk hO => hkeep k hk (fun e => hO (.inl e)) (fun e => hO (.inr ⟨v, h.bL.cell, e⟩)), fun k hk => ?_, fun _ k hk => hG.ol k hk⟩⟩
  rcases hk with rfl | ⟨u, hu, hk⟩
  · exact .inl (.inl rfl)
  · rw [hvs.cell] at hu
    cases hu
    rcases hat with e | e
    · rw [e] at hk
      exact .inl (.inr ⟨v, h.bL.cell, hk⟩)
    · rw [e] at hk
      cases hk
      exact .inr (by simp)
end

theorem king_m {p : Pos} (hm : MayP p) {m : Mv} (h : Pseu p m) : HasKing (doneL p m) p.turn := by
  have ht := hm.ok.turn
  obtain ⟨k, hk, hku⟩ := hm.king p.turn ht
  have h1 := (shape_one hm h (shape_of hm h)).1
  by_cases hx : p.L m.fr = 6 * (1 - 2 * p.turn)
  · exact ⟨m.tg, h.tg, (h1 m.tg).2 (by rw [if_pos hx])⟩
  · exact ⟨k, hk, (h1 k).2 (by rw [if_neg hx]; exact (hku k).2 rfl)⟩
theorem safe_m {p : Pos} (hm : MayP p) {m : Mv} (h : Pseu p m) : safeGo p m.fr m.tg = !inCheckB (aftL p m) p.turn := by
  rw [(aftL_eq hm h).1, check_into hm h]; rfl
theorem corner_m {p : Pos} (hm : MayP p) {m : Mv} (h : Pseu p m) (hk : sizeI (p.L m.fr) = 6) : ((m.tg : Int) - m.fr = 2 → m.fr + 3 < 64) ∧ ((m.tg : Int) - m.fr = -2 → 4 ≤ m.fr) := by
  have ht := hm.ok.turn
  have key : ((m.tg : Int) - m.fr = 2 ∨ (m.tg : Int) - m.fr = -2) → ∃ n, Cast p n m.fr m.tg := by
    intro h2
    cases kinds_of hm h with
    | piece h1 ha h3 hi hk2 => exact absurd ⟨hk, by rcases h2 with e | e <;> rw [e] <;> decide⟩ hk2
    | takes hx ha hb h2 he => rw [hx, size_own ht] at hk; omega
    | over hx ha hb h2 he hi => rw [hx, size_own ht] at hk; omega
    | one hx ha h2 he => rw [hx, size_own ht] at hk; omega
    | two hx ha hf h2 hb hi he => rw [hx, size_own ht] at hk; omega
    | cast n hC hi => exact ⟨n, hC⟩
  refine ⟨fun h2 => ?_, fun h2 => ?_⟩
  · obtain ⟨n, hC⟩ := key (.inl h2)
    obtain ⟨e1, e2, _, _⟩ := cast_land hC
    have h4 := hC.n4
    rw [e2]
    match n, h4 with
    | 0, _ | 1, _ | 2, _ | 3, _ => decide
  · obtain ⟨n, hC⟩ := key (.inr h2)
    obtain ⟨e1, e2, _, _⟩ := cast_land hC
    have h4 := hC.n4
    rw [e2]
    match n, h4 with
    | 0, _ | 1, _ | 2, _ | 3, _ => decide

/-- After, of a move that may be made but for the king's safety. -/
theorem afterP_m {p : Pos} (hm : MayP p) {m : Mv} (h : Pseu p m) (b off cap : Nat) (w : World) (hbr : Brd w b off p.L) :
    Calls Tryz.prog 36 #[chessV b off cap p, mvV m] w fun e w' => ∃ g cq, e = .returned (chessV g 0 cq (doneR p m)) ∧ Brd w' g 0 (doneL p m) ∧ w.heap.size ≤ g ∧ Below w.heap.size w w' := by
  obtain ⟨i0, i5⟩ := into_bd h
  refine (afterP_any b off cap p m w hbr hm.ok.turn hm.ok.c0 hm.ok.c1 hm.ok.h0 hm.ok.h1 hm.ok.f0 hm.ok.f1 hm.ok.ep h.fr h.tg i0 i5 (corner_m hm h)).mono ?_
  rintro e w' ⟨g, cq, rfl, hB, hg, hb⟩
  rw [aftP_eq hm h]
  rw [(aftL_eq hm h).1] at hB
  exact ⟨g, cq, rfl, hB.brd (doneL_bd hm.ok.bd hm.ok.turn i0 i5), hg, hb⟩

set_option maxHeartbeats 8000000 in
theorem add_any {n₀ b off cap : Nat} {w W : World} {p : Pos} {v : Value} {l : List Mv} (hm : MayP p) (hbr : Brd w b off p.L) (hbn : b < n₀) (hS : GS n₀ w W b off cap p v l) (hl : l.length ≤ 20000) {m : Mv} (hP : Pseu p m) :
    Calls Tryz.prog 72 #[mvV m, .pointer (some ⟨n₀, 0, none⟩), .pointer (some ⟨n₀ + 1, 0, none⟩)] W fun e w' => e = .returned (.bool true) ∧ ∃ v', GS n₀ w w' b off cap p v' (l ++ [m].filter fun m => safeGo p m.fr m.tg) ∧ FrK (n₀ + 1) W w' := by
  obtain ⟨i0, hi0, hz0, hz1, hz2⟩ := info_parts Tryz.info26
  have hlt := hbr.lt
  have hsafe := Lib.hid (safe_m hm hP)
  have hkg := Lib.hid (king_m hm hP)
  have hts := Lib.hid hm.ok.turn
  have hGlt := hS.lt
  have HA := Lib.hid (afterP_m hm hP b off cap)
  have HS := Lib.hid hS
  have hbW : Brd W b off p.L := hbr.below hS.below hbn
  have hf0 := run_field0
  unfold mvV
  go_enter Tryz.func72, Tryz.ntmps72
  go_upto_region 1 with fail
  generalize hW0 : World.alloc _ _ = W0
  have hM : Blk W0 W.heap.size #[.int .i64 m.fr, .int .i64 m.tg, .int .i64 m.into] := by rw [← hW0]; exact Blk.new W _ _
  have hb0 : Below W.heap.size W W0 := by rw [← hW0]; exact (Below.refl _ _).alloc (Nat.le_refl _) _
  clear hW0
  go_cut [12] from 5 to 12 (fun s12 wx => s12 = .bool (safeGo p m.fr m.tg) ∧ Below W.heap.size W wx ∧ Blk wx W.heap.size #[.int .i64 m.fr, .int .i64 m.tg, .int .i64 m.into])
  case first =>
    have hG := HS.out.later hb0
    have hPl := hG.bP.lt
    have hMl := hM.lt
    have p0 := hG.bP.cell (o := 0) rfl
    have p1 := hG.bP.cell (o := 1) rfl
    have p2 := hG.bP.cell (o := 2) rfl
    have p3 := hG.bP.cell (o := 3) rfl
    have p4 := hG.bP.cell (o := 4) rfl
    have p5 := hG.bP.cell (o := 5) rfl
    have p6 := hM.cell (o := 0) rfl
    have p7 := hM.cell (o := 1) rfl
    have p8 := hM.cell (o := 2) rfl
    have hBr0 := hbW.below hb0 (by omega)
    have hBr : Brd W0.drew b off p.L := ⟨hBr0.lt, hBr0.cell, hBr0.bd⟩
    clear hBr0
    clear hG
    go_region_held3 (fun w' => w'.cell? ⟨n₀, 0, none⟩ = some (.slice (some ⟨b, off, none⟩) 64 cap) ∧ w'.cell? ⟨n₀, 1, none⟩ = some (.int .i64 p.turn) ∧ w'.cell? ⟨n₀, 2, none⟩ = some (.int .i64 p.castle) ∧ w'.cell? ⟨n₀, 3, none⟩ = some (.int .i64 p.ep) ∧ w'.cell? ⟨n₀, 4, none⟩ = some (.int .i64 p.half) ∧ w'.cell? ⟨n₀, 5, none⟩ = some (.int .i64 p.full) ∧ w'.cell? ⟨W.heap.size, 0, none⟩ = some (.int .i64 m.fr) ∧ w'.cell? ⟨W.heap.size, 1, none⟩ = some (.int .i64 m.tg) ∧ w'.cell? ⟨W.heap.size, 2, none⟩ = some (.int .i64 m.into))
      (first | exact ⟨(hb2.cell (p := ⟨n₀, 0, none⟩) (Nat.lt_of_lt_of_le hPl hb1.size)).trans ((hb1.cell (p := ⟨n₀, 0, none⟩) hPl).trans p0), (hb2.cell (p := ⟨n₀, 1, none⟩) (Nat.lt_of_lt_of_le hPl hb1.size)).trans ((hb1.cell (p := ⟨n₀, 1, none⟩) hPl).trans p1), (hb2.cell (p := ⟨n₀, 2, none⟩) (Nat.lt_of_lt_of_le hPl hb1.size)).trans ((hb1.cell (p := ⟨n₀, 2, none⟩) hPl).trans p2), (hb2.cell (p := ⟨n₀, 3, none⟩) (Nat.lt_of_lt_of_le hPl hb1.size)).trans ((hb1.cell (p := ⟨n₀, 3, none⟩) hPl).trans p3), (hb2.cell (p := ⟨n₀, 4, none⟩) (Nat.lt_of_lt_of_le hPl hb1.size)).trans ((hb1.cell (p := ⟨n₀, 4, none⟩) hPl).trans p4), (hb2.cell (p := ⟨n₀, 5, none⟩) (Nat.lt_of_lt_of_le hPl hb1.size)).trans ((hb1.cell (p := ⟨n₀, 5, none⟩) hPl).trans p5), (hb2.cell (p := ⟨W.heap.size, 0, none⟩) (Nat.lt_of_lt_of_le hMl hb1.size)).trans ((hb1.cell (p := ⟨W.heap.size, 0, none⟩) hMl).trans p6), (hb2.cell (p := ⟨W.heap.size, 1, none⟩) (Nat.lt_of_lt_of_le hMl hb1.size)).trans ((hb1.cell (p := ⟨W.heap.size, 1, none⟩) hMl).trans p7), (hb2.cell (p := ⟨W.heap.size, 2, none⟩) (Nat.lt_of_lt_of_le hMl hb1.size)).trans ((hb1.cell (p := ⟨W.heap.size, 2, none⟩) hMl).trans p8)⟩ | exact ⟨(hb1.cell (p := ⟨n₀, 0, none⟩) hPl).trans p0, (hb1.cell (p := ⟨n₀, 1, none⟩) hPl).trans p1, (hb1.cell (p := ⟨n₀, 2, none⟩) hPl).trans p2, (hb1.cell (p := ⟨n₀, 3, none⟩) hPl).trans p3, (hb1.cell (p := ⟨n₀, 4, none⟩) hPl).trans p4, (hb1.cell (p := ⟨n₀, 5, none⟩) hPl).trans p5, (hb1.cell (p := ⟨W.heap.size, 0, none⟩) hMl).trans p6, (hb1.cell (p := ⟨W.heap.size, 1, none⟩) hMl).trans p7, (hb1.cell (p := ⟨W.heap.size, 2, none⟩) hMl).trans p8⟩ | go_keep)
      (first
        | (go_at_call 36; refine (HA.out _ hBr).mono ?_; rintro e w1 ⟨g, cq, rfl, hB, hg, hb1⟩; dsimp only [chessV, doneR])
        | (go_at_call 61; refine (checkedP_any g 0 cq (doneL p m) p.turn _ hts.out hB hkg.out).mono ?_; rintro e w2 ⟨rfl, hb2⟩))
    all_goals
      go_wp2
      go_meet
      have hb01 : Below W0.heap.size W0 w2 := (((Below.refl _ W0).drew).trans hb1).trans (hb2.mono hb1.size)
      exact ⟨by rw [hsafe.out, (aftL_eq hm hP).1], hb0.trans (hb01.mono hb0.size), hM.below hb01 hMl⟩
  case rest =>
  clear hM hb0
  obtain ⟨rfl, hbx, hM⟩ := hcut
  generalize hsg : safeGo p m.fr m.tg = sg at *
  have Hsg := Lib.hid hsg
  clear hsg
  cases sg
  case false =>
    go_wp2
    go_ret
    refine ⟨rfl, v, ?_, FrK.of_below hbx (by omega)⟩
    rw [show [m].filter (fun m => safeGo p m.fr m.tg) = [] by simp [Hsg.out], List.append_nil]
    exact HS.out.later hbx
  case true =>
    have hG := HS.out.later hbx
    have hGlt := hG.lt
    have cL := hG.bL.cell
    have m0 := hM.cell (o := 0) rfl
    have m1 := hM.cell (o := 1) rfl
    have m2 := hM.cell (o := 2) rfl
    have hown0 := hG.own
    go_wp2_with (at_builtin; refine wpList_append_own_at _ rfl _ _ 37 rfl (n₀ + 3) 26 i0 (.agg #[.int .i64 0, .int .i64 0, .int .i64 0]) 3 24 Tryz.underlying37 hi0 hz0 hz1 hz2 rfl (by decide) _ _ _ rfl (hown0.alloc _) ⟨wc.heap.size, 0, none⟩ 1 1 [.int .i64 m.fr, .int .i64 m.tg, .int .i64 m.into] rfl rfl ?c1 ?c2 ?c3 ?c4 ?c5 ?_)
    case c1 => exact three_new _ _ _ _ _
    case c2 => intro u hu; simp at hu; rcases hu with rfl | rfl | rfl <;> rfl
    case c3 => unfold maxLen; omega
    case c4 => omega
    case c5 => simp; omega
    intro v' w1 hown' hgrow _ hat
    obtain ⟨hv1, hG2, hF⟩ := hG.app _ m hown' hgrow (by simpa using hat)
    obtain ⟨g', cap', rfl⟩ := ownsRow_succ hown'
    have hc1 := hv1.cell
    have hf1 := hv1.frozen
    clear hown' hgrow hown0 hat
    go_wp2
    go_ret
    refine ⟨rfl, .slice (some ⟨g', 0, none⟩) (l.length + 1) cap', ?_, (FrK.of_below hbx (by omega)).trans hF⟩
    rw [show [m].filter (fun m => safeGo p m.fr m.tg) = [m] by simp [Hsg.out]]
    exact hG2

theorem crown_mv {fr tg : Nat} (h : 8 ≤ tg ∧ tg < 56) : crownL fr tg = [⟨fr, tg, 0⟩] := by unfold crownL; rw [if_pos h]
theorem crown_no {fr tg : Nat} (h : ¬ (8 ≤ tg ∧ tg < 56)) : crownL fr tg = crowns fr tg 4 := by unfold crownL; rw [if_neg h]

set_option maxHeartbeats 4000000 in
theorem crown_any {n₀ b off cap : Nat} {w W : World} {p : Pos} {v : Value} {l : List Mv} (hm : MayP p) (hbr : Brd w b off p.L) (hbn : b < n₀) (hS : GS n₀ w W b off cap p v l) (hl : l.length ≤ 19000) {fr tg : Nat}
    (hP : ∀ m, m ∈ crownL fr tg → Pseu p m) (hf : fr < 64) (ht : tg < 64) :
    Calls Tryz.prog 75 #[.int .i64 fr, .int .i64 tg, addV n₀] W fun e w' => e = .returned (.bool true) ∧ ∃ v', GS n₀ w w' b off cap p v' (l ++ (crownL fr tg).filter fun m => safeGo p m.fr m.tg) ∧ FrK (n₀ + 1) W w' := by
  by_cases h8 : 8 ≤ tg ∧ tg < 56
  · have hA := add_any hm hbr hbn hS (by omega) (hP ⟨fr, tg, 0⟩ (by rw [crown_mv h8]; simp))
    rw [crown_mv h8]
    have HA := Lib.hid hA
    clear hA
    obtain ⟨h80, h81⟩ := h8
    unfold addV
    go_enter Tryz.func75, Tryz.ntmps75
    go_wp2_with (go_at_call 72; refine HA.out.mono ?_; rintro e w1 ⟨rfl, v1, hS1, hF1⟩)
    go_ret
    exact ⟨rfl, v1, hS1, hF1⟩
  · have hA : ∀ (k : Nat) (W1 : World) (v1 : Value) (l1 : List Mv), k < 4 → l1.length ≤ 20000 → GS n₀ w W1 b off cap p v1 l1 → _ := fun k W1 v1 l1 hk hl1 hS1 =>
      add_any hm hbr hbn hS1 hl1 (hP ⟨fr, tg, (k : Int) + 2⟩ (by rw [crown_no h8, mem_crowns]; exact ⟨rfl, rfl, by dsimp only; omega, by dsimp only; omega⟩))
    rw [crown_no h8]
    have HA := Lib.hid hA
    clear hA hP
    have h8' : ¬ 8 ≤ tg ∨ ¬ tg < 56 := by omega
    have hl4 : ∀ k, k ≤ 4 → ((crowns fr tg k).filter fun m => safeGo p m.fr m.tg).length ≤ 4 := fun k hk => by
      refine Nat.le_trans (List.length_filter_le _ _) ?_
      simp [crowns]; omega
    have HL := Lib.hid hl4
    have hs0 : GS n₀ w W b off cap p v (l ++ (crowns fr tg 0).filter fun m => safeGo p m.fr m.tg) := by simpa [crowns] using hS
    clear hl4 h8 hS
    unfold addV
    go_enter Tryz.func75, Tryz.ntmps75
    have hw0 : ∃ e8 : Bool, (decide ((8 : Int) ≤ tg) = e8) := ⟨_, rfl⟩
    rcases h8' with h8 | h56
    · go_wp2_with fail
      go_loopg [7] 4 (fun g s7 wr => ∃ (k : Nat) (v' : Value), k ≤ 4 ∧ g = 4 - k ∧ s7 = .int .i64 ((k : Int) + 2) ∧ GS n₀ w wr b off cap p v' (l ++ (crowns fr tg k).filter fun m => safeGo p m.fr m.tg) ∧ FrK (n₀ + 1) W wr)
      case atStart => exact ⟨0, v, by omega, rfl, rfl, hs0, FrK.refl _ _⟩
      case round =>
      clear hs0
      obtain ⟨k, v', hk, hg, rfl, hS, hF⟩ := hrel
      have Hg := Lib.hid hg
      clear hg
      by_cases hk4 : k = 4
      · subst hk4
        go_wp2
        go_ret
        exact ⟨rfl, v', hS, hF⟩
      have hlt : k < 4 := by omega
      clear hk4
      have hlen : (l ++ (crowns fr tg k).filter fun m => safeGo p m.fr m.tg).length ≤ 20000 := by rw [List.length_append]; have := HL.out k hk; omega
      have HC := Lib.hid (HA.out k wr v' _ hlt hlen hS)
      clear hlen
      go_wp2_with (go_at_call 72; refine HC.out.mono ?_; rintro e w1 ⟨rfl, v1, hS1, hF1⟩)
      go_roundg (4 - (k + 1))
      case measure => have := Hg.out; omega
      case rel => exact ⟨k + 1, v1, by omega, rfl, by go_num, by rw [crowns_succ, List.filter_append, ← List.append_assoc]; exact hS1, hF.trans hF1⟩
    · by_cases h80 : 8 ≤ tg
      · go_wp2_with fail
        go_loopg [7] 4 (fun g s7 wr => ∃ (k : Nat) (v' : Value), k ≤ 4 ∧ g = 4 - k ∧ s7 = .int .i64 ((k : Int) + 2) ∧ GS n₀ w wr b off cap p v' (l ++ (crowns fr tg k).filter fun m => safeGo p m.fr m.tg) ∧ FrK (n₀ + 1) W wr)
        case atStart => exact ⟨0, v, by omega, rfl, rfl, hs0, FrK.refl _ _⟩
        case round =>
        clear hs0
        obtain ⟨k, v', hk, hg, rfl, hS, hF⟩ := hrel
        have Hg := Lib.hid hg
        clear hg
        by_cases hk4 : k = 4
        · subst hk4
          go_wp2
          go_ret
          exact ⟨rfl, v', hS, hF⟩
        have hlt : k < 4 := by omega
        clear hk4
        have hlen : (l ++ (crowns fr tg k).filter fun m => safeGo p m.fr m.tg).length ≤ 20000 := by rw [List.length_append]; have := HL.out k hk; omega
        have HC := Lib.hid (HA.out k wr v' _ hlt hlen hS)
        clear hlen
        go_wp2_with (go_at_call 72; refine HC.out.mono ?_; rintro e w1 ⟨rfl, v1, hS1, hF1⟩)
        go_roundg (4 - (k + 1))
        case measure => have := Hg.out; omega
        case rel => exact ⟨k + 1, v1, by omega, rfl, by go_num, by rw [crowns_succ, List.filter_append, ← List.append_assoc]; exact hS1, hF.trans hF1⟩
      · omega

set_option maxHeartbeats 1000000 in
/-- A pawn's move is told. -/
theorem tell_any {n₀ b off cap B : Nat} {w W : World} {p : Pos} {v : Value} {l : List Mv} (hm : MayP p) (hbr : Brd w b off p.L) (hbn : b < n₀) (hS : GS n₀ w W b off cap p v l) (hl : l.length ≤ 19000) {fr tg : Nat}
    (hP : ∀ m, m ∈ crownL fr tg → Pseu p m) (hf : fr < 64) (ht : tg < 64) (hB : W.cell? ⟨B, 0, none⟩ = some (.int .i64 fr)) :
    Calls Tryz.prog 74 #[.int .i64 tg, .pointer (some ⟨B, 0, none⟩), .pointer (some ⟨n₀ + 2, 0, none⟩)] W fun e w' => e = .returned (.tuple #[]) ∧ ∃ v', GS n₀ w w' b off cap p v' (l ++ (crownL fr tg).filter fun m => safeGo p m.fr m.tg) ∧ FrK (n₀ + 1) W w' := by
  have HA := Lib.hid (crown_any hm hbr hbn hS hl hP hf ht)
  have cA := hS.bA.cell
  clear hP
  unfold addV at cA HA
  go_enter Tryz.func74, Tryz.ntmps74
  go_wp2_with (go_at_call 75; refine HA.out.mono ?_; rintro e w1 ⟨rfl, v1, hS1, hF1⟩)
  go_end0
  exact ⟨rfl, v1, hS1, hF1⟩

set_option maxHeartbeats 1000000 in
/-- A castling is told. -/
theorem tellC_any {n₀ b off cap : Nat} {w W : World} {p : Pos} {v : Value} {l : List Mv} (hm : MayP p) (hbr : Brd w b off p.L) (hbn : b < n₀) (hS : GS n₀ w W b off cap p v l) (hl : l.length ≤ 19000) {m : Mv} (hP : Pseu p m) :
    Calls Tryz.prog 78 #[mvV m, .pointer (some ⟨n₀ + 2, 0, none⟩)] W fun e w' => e = .returned (.tuple #[]) ∧ ∃ v', GS n₀ w w' b off cap p v' (l ++ [m].filter fun m => safeGo p m.fr m.tg) ∧ FrK (n₀ + 1) W w' := by
  have hb0 : ∀ o, Below W.heap.size W (W.alloc o) := fun o => (Below.refl _ _).alloc (Nat.le_refl _) o
  have hG := hS.later (hb0 (.cells #[.int .i64 m.fr, .int .i64 m.tg, .int .i64 m.into] 26))
  have HA := Lib.hid (add_any hm hbr hbn hG (by omega) hP)
  have cA := hG.bA.cell
  have hlt := hS.lt
  have HB := Lib.hid hb0
  clear hb0 hG
  unfold addV at cA
  unfold mvV at HA ⊢
  go_enter Tryz.func78, Tryz.ntmps78
  go_wp2_with (go_at_call 72; refine HA.out.mono ?_; rintro e w1 ⟨rfl, v1, hS1, hF1⟩)
  go_end0
  exact ⟨rfl, v1, hS1, (FrK.of_below (HB.out _) (by omega)).trans hF1⟩

end Go.Proofs.YthffhhbbhjcdeaaGreatDoor
